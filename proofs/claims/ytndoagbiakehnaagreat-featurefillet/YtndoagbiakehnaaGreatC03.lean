/- For the claim of FeatureFillet: parts VL14, VL15, VL16, VL17, VL18, VL19, VL20, VL22, VL24, VL25, VL26, VLA. -/
import Derived.Test.YtndoagbiakehnaaGreatC02
import Derived.LoopN
set_option linter.unusedSimpArgs false
set_option linter.unusedVariables false
section
namespace Go.VL
theorem Br (f:Nat->Nat) (b:Nat):∀ (l:List Nat) (s:Nat),(l.foldl (fun s i=>s ||| 2 ^ i ||| f i) s).testBit b=true->s.testBit b=true∨∃ e∈l,b=e∨(f e).testBit b=true
 | [],s,h => .inl h
 | i :: l,s,h=>by
   simp only [List.foldl_cons] at h
   rcases Br f b l _ h with h | ⟨e,he,h⟩
   . simp only [Nat.testBit_or,Bool.or_eq_true,Nat.testBit_two_pow,decide_eq_true_eq] at h
     rcases h with (h | h) | h
     . exact .inl h
     . exact .inr ⟨i,by simp, .inl h.symm⟩
     . exact .inr ⟨i,by simp, .inr h⟩
   . exact .inr ⟨e,by simp [he],h⟩
theorem Bt:∀ (lM:List (List Nat)) (acc:List Nat),(g9 lM acc).length=acc.length+lM.length
 | [],acc=>by simp [g9]
 | l::r,acc=>by simp only [g9];rw [Bt r];simp;omega
theorem vV:∀ (lM:List (List Nat)) (acc:List Nat) (k:Nat),k<acc.length->(g9 lM acc)[k]? = acc[k]?
 | [],acc,k,_=>by simp [g9]
 | l::r,acc,k,h=>by
   simp only [g9]
   rw [vV r _ k (by simp;omega),List.getElem?_append_left h]
theorem Ez:∀ (lM:List (List Nat)) (acc:List Nat) (j:Nat) (l:List Nat),lM[j]? = some l->∃ LH:List Nat,LH.length=acc.length+j/\(∀ k,k<LH.length->(g9 lM acc)[k]? = LH[k]?) /\
   (g9 lM acc)[acc.length+j]? = some (l.foldl (fun s i=>s ||| 2 ^ i ||| LH.getD i 0) 0)
 | [],_,_,_,h=>by simp at h
 | l'::r,acc,0,l,h=>by
   simp only [List.getElem?_cons_zero,Option.some.injEq] at h;subst h
   refine ⟨acc,rfl,fun k hk=>vV _ _ k hk, ?_⟩
   simp only [g9]
   rw [vV r _ _ (by simp),List.getElem?_append_right (by omega)]
   simp
 | l'::r,acc,j+1,l,h=>by
   simp only [g9]
   obtain ⟨LH,h1,h2,h3⟩:=Ez r (acc++[l'.foldl (fun s i=>s ||| 2 ^ i ||| acc.getD i 0) 0]) j l (by simpa using h)
   refine ⟨LH,by simp at h1;omega,h2, ?_⟩
   simp only [List.length_append,List.length_singleton] at h3
   rw [show acc.length+(j+1)=acc.length+1+j from by omega]
   exact h3
theorem LI {lM:List (List Nat)} {j b:Nat} (hlt:∀ e∈lM.getD j [],e<j) (h:((g9 lM []).getD j 0).testBit b=true):∃ e∈lM.getD j [],b=e∨((g9 lM []).getD e 0).testBit b=true:=by
 by_cases hj:j<lM.length
 . obtain ⟨acc,h1,h2,h3⟩:=Ez lM [] j lM[j] (by simp [hj])
   simp only [List.length_nil,Nat.zero_add] at h1 h3
   have hg:(g9 lM []).getD j 0=lM[j].foldl (fun s i=>s ||| 2 ^ i ||| acc.getD i 0) 0:=by simp [List.getD,h3]
   rw [hg] at h
   have ho:lM.getD j []=lM[j]:=by simp [List.getD,hj]
   rw [ho] at hlt ⊢
   rcases Br _ b _ _ h with h | ⟨e,he,h⟩
   . simp at h
   . refine ⟨e,he,h.imp id fun h => ?_⟩
     have:(g9 lM []).getD e 0=acc.getD e 0:=by
       simp only [List.getD]
       rw [h2 e (by rw [h1];exact hlt e he)]
     rw [this];exact h
 . have:(g9 lM []).getD j 0=0:=by
     have:=Bt lM []
     simp only [List.getD]
     rw [List.getElem?_eq_none (by simp at this;omega)]
     rfl
   rw [this] at h
   simp at h
theorem wY {lM:List (List Nat)} {X:Nat->Bool} {n:Nat} (hlt:∀ j,j<n->∀ e∈lM.getD j [],e<j) (hX:∀ k,k<n->X k=true->∀ e∈lM.getD k [],X e=true) :
   ∀ j,j<n->(∀ e∈lM.getD j [],X e=true)->∀ b,((g9 lM []).getD j 0).testBit b=true->X b=true:=by
 intro j
 induction j using Nat.strongRecOn with
 | _ j ih =>
   intro hj he b hb
   obtain ⟨e,he1,h⟩:=LI (hlt j hj) hb
   have hej:=hlt j hj e he1
   rcases h with rfl | h
   . exact he b he1
   . exact ih e hej (by omega) (hX e (by omega) (he e he1)) b h
theorem eL.map_congr {α β : Type} {g h : α -> β}:∀ (op:eL α),(∀ x∈op.args,g x=h x)->op.map g=op.map h:=by
 intro op hx
 have hl:∀ (l:List α),(∀ x∈l,x∈op.args)->l.map g=l.map h:=fun l hl=>List.map_congr_left fun x N8=>hx x (hl x N8)
 have ho:∀ (l:Option α),(∀ x,l=some x->x∈op.args)->l.map g=l.map h:=by
   intro l hl;cases l with
   | none=>rfl
   | some x=>simp [hx x (hl x rfl)]
 cases op<;>simp only [eL.map,eL.args] at hx hl ho ⊢
 case build z ps=>congr 1;apply List.map_congr_left;intro q hq;rw [hx q.2.2 (List.mem_map.2 ⟨q,hq,rfl⟩)]
 case buildSl k n z ps=>congr 1;apply List.map_congr_left;intro q hq;rw [hx q.2 (List.mem_map.2 ⟨q,hq,rfl⟩)]
 case mkfn fn a c=>rw [hl a (by simp +contextual),hl c (by simp +contextual)]
 case call f as=>rw [hx f (by simp),hl as (by simp +contextual)]
 case slice k x lo hi mx=>rw [hx x (by simp),ho lo (by simp +contextual),ho hi (by simp +contextual),ho mx (by simp +contextual)]
 case sliceS x lo hi=>rw [hx x (by simp),ho lo (by simp +contextual),ho hi (by simp +contextual)]
 case sliceA n x lo hi=>rw [hx x (by simp),ho lo (by simp +contextual),ho hi (by simp +contextual)]
 all_goals try simp only [List.mem_cons,List.not_mem_nil,or_false,forall_eq_or_imp,forall_eq] at hx
 all_goals simp only [hx]
theorem Oh {G:Nat->Option (List AV)} {t t':List AV}:∀ (x:aI),(∀ s,x.aba=some s->t[s]? = t'[s]?)->x.ev G t=x.ev G t'
 | .t n,h=>by have:=h n rfl;simp [aI.ev,List.getD,this]
 | .c _,_=>rfl
 | .g _,_=>rfl
 | .f _,_=>rfl
theorem nC {σ σ':ae} {k:Nat} {x:AV} {ys:List AV} {rd:List Id} (h:er σ k x=some (ys,rd)) (hr:∀ id∈rd, σ' id = σ id):er σ' k x=some (ys,rd):=by
 unfold er at h ⊢
 split at h
 . exact h
 . exact h
 . exact h
 . rename_i id k' off len t
   skip
   split at h
   . rename_i bk hb
     split at h
     . rename_i hh
       simp only [Option.some.injEq,Prod.mk.injEq] at h
       obtain ⟨rfl,rfl⟩:=h
       have:=hr id (by simp)
       rw [this,hb]
       simp [hh]
     . simp at h
   . simp at h
 . simp at h
theorem EA {σ : ae} {id:Id} {off k:Nat} {news:List AV} {v:AV} {rd:List Id} {r:dH} (h:tX σ id off k news v rd=some r):r.rd=id::rd:=by
 unfold tX at h
 split at h
 . split at h
   . simp only [Option.some.injEq] at h;subst h;rfl
   . simp at h
 . simp at h
theorem wZ {σ σ':ae} {id:Id} {off k:Nat} {news:List AV} {v:AV} {rd:List Id} {r:dH} (h:tX σ id off k news v rd=some r) (hr:∀ id∈r.rd, σ' id = σ id):tX σ' id off k news v rd=some r:=by
 have Xd:=EA h
 unfold tX at h ⊢
 rw [hr id (by rw [Xd];simp)]
 exact h
theorem LJ {σ σ':ae} {p:Id} {op:eL AV} {r:dH} (h:bu σ p op=some r) (hr:∀ id∈r.rd, σ' id = σ id):bu σ' p op=some r:=by
 cases op with
 | load agg n x =>
   simp only [bu] at h ⊢
   unfold jq at h ⊢
   split at h
   . rename_i id e o
     skip
     cases hb : σ id with
     | none=>simp [hb] at h
     | some bk =>
       simp only [hb] at h
       cases he:bk.els[e]? with
       | none=>simp [he] at h
       | some el =>
         simp only [he,Option.map_eq_some_iff] at h
         obtain ⟨v,hv,rfl⟩:=h
         rw [hr id (by simp),hb]
         simp [he,hv]
   . exact h
   . simp at h
 | store n x v =>
   simp only [bu] at h ⊢
   unfold j5 at h ⊢
   split at h
   . rename_i id e o
     skip
     cases hb : σ id with
     | none=>simp [hb] at h
     | some bk =>
       simp only [hb] at h
       cases he:bk.els[e]? with
       | none=>simp [he] at h
       | some el =>
         simp only [he] at h
         split at h
         . rename_i hh
           simp only [Option.some.injEq] at h;subst h
           rw [hr id (by simp),hb]
           simp [he,hh]
         . simp at h
   . simp at h
 | append k bytes s x =>
   simp only [bu] at h ⊢
   unfold dR at h ⊢
   cases qf:er σ k x with
   | none=>simp [qf] at h
   | some q =>
     obtain ⟨ys,rd⟩:=q
     simp only [qf] at h
     have yK : ∀ id∈rd,id∈r.rd:=by
       intro id kY
       split at h
       . split at h<;>first | (simp only [Option.some.injEq] at h;subst h;exact kY) | simp at h
       . split at h
         . split at h<;>first | (simp only [Option.some.injEq] at h;subst h;exact kY) | simp at h
         . split at h<;>first | (simp only [Option.some.injEq] at h;subst h;exact kY) | simp at h
         . split at h
           . split at h
             . split at h
               . split at h<;>first | (simp only [Option.some.injEq] at h;subst h;exact List.mem_cons_of_mem _ kY) | (simp at h;done)
               . split at h<;>first | (simp only [Option.some.injEq] at h;subst h;exact List.mem_cons_of_mem _ kY) | (split at h<;>first | (simp only [Option.some.injEq] at h;subst h;exact List.mem_cons_of_mem _ kY) | (simp at h;done))
             . simp at h
           . simp at h
         . simp at h
     rw [nC qf (fun id kY=>hr id (yK id kY))]
     simp only []
     split at h
     . rename_i HG
       rw [if_pos HG];exact h
     . rename_i HG
       rw [if_neg HG]
       split at h
       . exact h
       . exact h
       . rename_i id k' off len t
         skip
         cases hb : σ id with
         | none=>simp [hb] at h
         | some bk =>
           simp only [hb] at h
           have kY:id∈r.rd:=by
             split at h
             . split at h
               . split at h<;>first | (simp only [Option.some.injEq] at h;subst h;simp;done) | (simp at h;done)
               . split at h<;>first | (simp only [Option.some.injEq] at h;subst h;simp;done) | (split at h<;>first | (simp only [Option.some.injEq] at h;subst h;simp;done) | (simp at h;done))
             . simp at h
           rw [hr id kY,hb]
           exact h
       . simp at h
 | bytesStr x =>
   simp only [bu] at h ⊢
   unfold lV at h ⊢
   cases qf:er σ 1 x with
   | none=>simp [qf] at h
   | some q =>
     obtain ⟨ys,rd⟩:=q
     simp only [qf,Option.map_eq_some_iff] at h
     obtain ⟨l,hl,rfl⟩:=h
     rw [nC qf hr]
     simp [hl]
 | slice k x lo hi mx =>
   simp only [bu] at h ⊢
   cases hs:fC k x lo hi mx with
   | some v=>rw [hs] at h;exact h
   | none =>
     rw [hs] at h
     simp only [mQ] at h ⊢
     split at h
     . rename_i id k' off len hh
       cases hb : σ id with
       | none=>simp [hb] at h
       | some bk =>
         simp only [hb] at h
         split at h
         . rename_i hc
           simp only [Option.map_eq_some_iff] at h
           obtain ⟨v,hv,rfl⟩:=h
           rw [hr id (by simp),hb]
           simp [hc,hv]
         . simp at h
     . exact h
     . simp at h
 | sliceA n x lo hi =>
   simp only [bu] at h ⊢
   unfold xY at h ⊢
   split at h
   . rename_i id e
     cases hb : σ id with
     | none=>simp [hb] at h
     | some bk =>
       have Xd:id∈r.rd:=by
         simp only [hb] at h
         cases qf:bk.els[e]? with
         | none=>simp [qf] at h
         | some el =>
           simp only [qf] at h
           cases s6:et n lo hi with
           | none=>simp [s6] at h
           | some q =>
             obtain ⟨l,r'⟩:=q
             simp only [s6] at h
             split at h
             . simp only [Option.some.injEq] at h;subst h;simp
             . simp at h
       simp only [hr id Xd]
       exact h
   . simp at h
 | cap x =>
   simp only [bu] at h ⊢
   cases hs:NM x with
   | some v=>rw [hs] at h;exact h
   | none =>
     rw [hs] at h
     simp only [yB] at h ⊢
     split at h
     . rename_i id k' off len
       cases hb : σ id with
       | none=>simp [hb] at h
       | some bk =>
         simp only [hb] at h
         split at h
         . rename_i hc
           simp only [Option.some.injEq] at h;subst h
           rw [hr id (by simp),hb]
           simp [hc]
         . simp at h
     . simp at h
 | ovl x y =>
   simp only [bu] at h ⊢
   unfold Lp at h ⊢
   split at h
   . rename_i i1 _ _ _ _ i2 _ _ _ _
     split at h
     . simp at h
     . rename_i hne
       cases h1 : σ i1 with
       | none=>simp [h1] at h
       | some b1 =>
         cases h2 : σ i2 with
         | none=>simp [h1,h2] at h
         | some b2 =>
           simp only [h1,h2] at h
           split at h
           . rename_i hp
             simp only [Option.some.injEq] at h;subst h
             simp only [hr i1 (by simp),hr i2 (by simp),h1,h2]
             rw [if_neg hne,if_pos hp]
           . simp at h
   . simp at h
 | clear k z x =>
   simp only [bu] at h ⊢
   unfold yA at h ⊢
   split at h
   . exact h
   . rename_i id k' off len tt
     split at h
     . rename_i h0;simp only [h0,if_true];exact h
     . rename_i h0
       simp only [h0,if_false]
       split at h
       . rename_i hh;rw [if_pos hh];exact wZ h hr
       . simp at h
   . simp at h
 | copy k d x =>
   simp only [bu] at h ⊢
   unfold Ei at h ⊢
   cases qf:er σ k x with
   | none=>simp [qf] at h
   | some q =>
     obtain ⟨ys,rd⟩:=q
     simp only [qf] at h
     have yK:∀ id∈rd,id∈r.rd:=by
       intro id kY
       split at h
       . simp only [Option.some.injEq] at h;subst h;exact kY
       . split at h
         . simp only [Option.some.injEq] at h;subst h;exact kY
         . split at h
           . have:=EA h;rw [this];exact List.mem_cons_of_mem _ kY
           . simp at h
       . simp at h
     rw [nC qf (fun id kY=>hr id (yK id kY))]
     simp only []
     split at h
     . exact h
     . split at h
       . rename_i h0;rw [if_pos h0];exact h
       . rename_i h0
         rw [if_neg h0]
         split at h
         . rename_i hk;rw [if_pos hk];exact wZ h hr
         . simp at h
     . simp at h
 | _=>exact h
theorem AM {P:Program} {G:Nat->Option (List AV)} {σ σ':ae} {p:Id} {op:eL AV} {r:dH} (h:hZ P G σ p op r) (hr:∀ id∈r.rd, σ' id = σ id):hZ P G σ' p op r:=by
 cases op with
 | call f as =>
   simp only [hZ] at h ⊢
   split at h
   . obtain ⟨S,h1,h2,h3⟩:=h
     exact ⟨S,h1,fun x hx=>by rw [hr _ (h3 x hx)];exact h2 x hx,h3⟩
   . exact h
 | _=>exact LJ h hr
theorem mg {oc:Option AV} {r:dH} (h:bd oc=some r):r.rd=[]/\r.up=[]:=by
 cases oc with
 | none=>simp [bd] at h
 | some c=>simp only [bd,Option.map_some,Option.some.injEq] at h;subst h;exact ⟨rfl,rfl⟩
theorem LK {P:Program} {G:Nat->Option (List AV)} {σ : ae} {p:Id} {op:eL aI} (hp:op.pure=true) {t:List AV} {r:dH} (h:hZ P G σ p (op.map (aI.ev G t)) r):r.rd=[]/\r.up=[]:=by
 cases op<;>simp only [eL.pure,Bool.false_eq_true] at hp<;>simp only [eL.map,hZ,bu] at h
 all_goals first
   | exact mg h
   | (simp at h;done)
   | (split at h<;>first | exact mg h | (simp at h;done) | (split at h<;>first | exact mg h | (simp at h;done)))
theorem LL {P:Program} {G:Nat->Option (List AV)} {σ : ae} {p:Id} {op:eL aI} (hp:op.nx=true) {t:List AV} {r:dH} (h:hZ P G σ p (op.map (aI.ev G t)) r):r.up=[]:=by
 cases op<;>simp only [eL.nx,Bool.false_eq_true] at hp
 case bytesStr =>
   simp only [eL.map,hZ,bu] at h
   unfold lV at h
   split at h
   . simp only [Option.map_eq_some_iff] at h;obtain ⟨v,_,rfl⟩:=h;rfl
   . simp at h
 case ovl =>
   simp only [eL.map,hZ,bu] at h
   unfold Lp at h
   split at h
   . split at h
     . simp at h
     . split at h
       . split at h
         . simp only [Option.some.injEq] at h;subst h;rfl
         . simp at h
       . simp at h
   . simp at h
 case slice =>
   simp only [eL.map,hZ,bu] at h
   unfold mQ at h
   split at h
   . exact (mg h).2
   . split at h
     . split at h
       . split at h
         . simp only [Option.map_eq_some_iff] at h;obtain ⟨v,_,rfl⟩:=h;rfl
         . simp at h
       . simp at h
     . split at h
       . split at h
         . split at h
           . simp only [Option.some.injEq] at h;subst h;rfl
           . simp at h
         . simp at h
       . simp at h
     . simp at h
 case cap =>
   simp only [eL.map,hZ,bu] at h
   unfold yB at h
   split at h
   . exact (mg h).2
   . split at h
     . split at h
       . split at h
         . simp only [Option.some.injEq] at h;subst h;rfl
         . simp at h
       . simp at h
     . simp at h
 simp only [eL.map,hZ,bu] at h
 unfold jq at h
 split at h
 . split at h
   . split at h
     . simp only [Option.map_eq_some_iff] at h;obtain ⟨v,_,rfl⟩:=h;rfl
     . simp at h
   . simp at h
 . simp only [Option.map_eq_some_iff] at h;obtain ⟨v,_,rfl⟩:=h;rfl
 . simp at h
end Go.VL
end

section
namespace Go.VL
theorem vW {X Y:Nat->Bool}:∀ (L:List Done) (i:Nat) (t:List AV),(∀ k,k<L.length->X (i+k)=Y (i+k))->dM X L i t=dM Y L i t
 | [],_,_,_=>rfl
 | (d,r)::L,i,t,h=>by
   simp only [dM]
   have h0:=h 0 (by simp)
   rw [Nat.add_zero] at h0
   rw [h0]
   exact vW L (i+1) _ (fun k hk=>by rw [show i+1+k=i+(k+1) from by omega];exact h (k+1) (by simpa using hk))
theorem wa {X Y:Nat->Bool}:∀ (L:List Done) (i:Nat) (σ : ae),(∀ k,k<L.length->X (i+k)=Y (i+k))->e7 X L i σ = e7 Y L i σ
 | [],_,_,_=>rfl
 | (d,r)::L,i,t,h=>by
   simp only [e7]
   have h0:=h 0 (by simp)
   rw [Nat.add_zero] at h0
   rw [h0]
   exact wa L (i+1) _ (fun k hk=>by rw [show i+1+k=i+(k+1) from by omega];exact h (k+1) (by simpa using hk))
theorem Bu {X Y:Nat->Bool} {i:Nat} (hX:X i=false) (hY:Y i=true) (hXY:∀ k,X k=true->Y k=true):∀ (l:List Nat),i∈l->l.countP X<l.countP Y
 | [],h=>by simp at h
 | a :: l,h=>by
   have hle:l.countP X<=l.countP Y:=List.countP_mono_left fun x _ hx=>hXY x hx
   simp only [List.countP_cons]
   rcases List.mem_cons.1 h with rfl | h
   . simp [hX,hY];omega
   . have:=Bu hX hY hXY l h
     by_cases ha:X a=true
     . simp [ha,hXY a ha];omega
     . simp [ha];split<;>omega
theorem yT {X:Nat->Bool}:∀ (l:List Nat),l.length<=l.countP X->∀ i∈l,X i=true
 | [],_,i,h=>by simp at h
 | a :: l,hc,i,h=>by
   have hle:=List.countP_le_length (p:=X) (l:=l)
   simp only [List.countP_cons,List.length_cons] at hc
   by_cases ha:X a=true
   . simp only [ha,if_true] at hc
     rcases List.mem_cons.1 h with rfl | h
     . exact ha
     . exact yT l (by omega) i h
   . simp [ha] at hc;omega
section
variable {P:Program} {G:Nat->Option (List AV)} {own:Nat->Prop}
theorem uo {n i j:Nat} (LM:i<j) (hj:j<n):(i,j)∈tZ n:=by
 unfold tZ
 rw [List.mem_flatMap]
 exact ⟨j,List.mem_range.2 hj,List.mem_map.2 ⟨i,List.mem_range.2 LM,rfl⟩⟩
structure Mid (G:Nat->Option (List AV)) (π : Id) (own:Nat->Prop) (L:List Done) (base n:Nat) (t0:List AV) (σ0:ae) (a0:Act) (E0:Env) (w0:World) (X:Nat->Bool) (E:Env) (w:World) (a:Act):Prop where
 frame:bW E w (dM X L 0 t0) a
 inv:Inv G own E w (e7 X L 0 σ0)
 Au:jr own π E0 E w0 w
 free:∀ i,i<n->X i=false->∀ j,((base+i) :: π) <:+ j->E.μ j=none
 more:rX E π (base+n)
 defers:a.defers=a0.defers
theorem LN {ops:Array Oper} {vs:List bc} (Hq:ops.toList.mapM (sc P ops)=some vs) (Oi:xZ vs (ops.toList.map sf)=true)
   {π : Id} {base:Nat} {t0:List AV} {σ0:ae} {rs:List dH} (hrl:rs.length=vs.length)
   (hst:∀ k o r,vs[k]? = some o->rs[k]? = some r->uk P G π base o (0+k) (dM (fun m=>m<0+k) ((vs.map (·.dst)).zip rs) 0 t0) (e7 (fun m=>m<0+k) ((vs.map (·.dst)).zip rs) 0 σ0) r)
   (hap:aB rs (rj vs (ops.toList.map sf))) {a0:Act} {E0:Env} {w0:World} {Q:Exit->Act->World->Prop}
   (hQ:∀ a E w,Mid G π own ((vs.map (·.dst)).zip rs) base ops.size t0 σ0 a0 E0 w0 (fun _=>true) E w a->Q .normal a w) :
   ∀ (fuel:Nat) (listed:Array Bool) (a:Act) (E:Env) (w:World),listed.size=ops.size->ops.size<=(List.range ops.size).countP (fun i=>listed.getD i false)+fuel ->
     (∀ k,k<ops.size->listed.getD k false=true->∀ e∈(ops.toList.map sf).getD k [],listed.getD e false=true) ->
     Mid G π own ((vs.map (·.dst)).zip rs) base ops.size t0 σ0 a0 E0 w0 (fun i=>listed.getD i false) E w a->wpAny P .any ops Q fuel listed a w:=by
 have nw:vs.length=ops.size:=by have:=fq Hq;simpa using this
 generalize hL:(vs.map (·.dst)).zip rs=L at *
 have hLl:L.length=ops.size:=by rw [<- hL];simp [hrl,nw]
 have Jd:∀ (k:Nat) (d:Option Nat) (r:dH),L[k]? = some (d,r)↔∃ o:bc,vs[k]? = some o/\o.dst=d/\rs[k]? = some r:=by
   intro k d r
   rw [<- hL,List.getElem?_zip_eq_some]
   simp only [List.getElem?_map,Option.map_eq_some_iff]
   constructor
   . rintro ⟨⟨o,h1,h2⟩,h3⟩;exact ⟨o,h1,h2,h3⟩
   . rintro ⟨o,h1,h2,h3⟩;exact ⟨⟨o,h1,h2⟩,h3⟩
 generalize abw:ops.toList.map sf=lM at *
 have anp:lM.length=ops.size:=by rw [<- abw];simp
 unfold xZ at Oi
 simp only [Bool.and_eq_true,List.all_eq_true] at Oi
 obtain ⟨⟨_,hlt⟩,Xr⟩:=Oi
 have Xs:∀ j,j<ops.size->∀ e∈lM.getD j [],e<j:=by
   intro j hj e he
   have:=hlt j (List.mem_range.2 (by rw [nw];exact hj)) e he
   simpa using this
 have Ar:∀ (i j:Nat) (a b:bc),i<j->vs[i]? = some a->vs[j]? = some b->wS a b=true->((g9 lM []).getD j 0).testBit i=true:=by
   intro i j a b LM ha hb hc
   have hj:j<vs.length:=(List.getElem?_eq_some_iff.1 hb).1
   have:=Xr (i,j) (uo LM hj)
   simp only [ha,hb,hc,Bool.not_true,Bool.false_or] at this
   exact this
 have lr:∀ (i j:Nat) (a b:bc),i<j->vs[i]? = some a->vs[j]? = some b->a.op.pure=false->b.op.pure=false->(a.op.nx&&b.op.nx)=false->((g9 lM []).getD j 0).testBit i=false->∀ (x y:dH),rs[i]? = some x->rs[j]? = some y->apart x y:=by
   intro i j a b LM ha hb hpa hpb hll hm x y hx hy
   have hj:j<vs.length:=(List.getElem?_eq_some_iff.1 hb).1
   refine hap (i,j) ?_ x y hx hy
   unfold rj
   rw [List.mem_filter]
   exact ⟨uo LM hj,by simp only [ha,hb,hpa,hpb,hll,hm];rfl⟩
 -- an operation that touches a block is not pure
 have touch:∀ (k:Nat) (o:bc) (r:dH),vs[k]? = some o->rs[k]? = some r->(r.rd≠[]∨r.up≠[])->o.op.pure=false:=by
   intro k o r ho hr hne
   cases hp:o.op.pure with
   | false=>rfl
   | true =>
     rcases hst k o r ho hr with ⟨_,rfl⟩ | ⟨_,hs⟩
     . simp at hne
     . obtain ⟨h1,h2⟩:=LK hp hs
       simp [h1,h2] at hne
 have Oj:∀ (k:Nat) (o:bc) (r:dH),vs[k]? = some o->rs[k]? = some r->r.up≠[]->o.op.nx=false:=by
   intro k o r ho hr hne
   cases hp:o.op.nx with
   | false=>rfl
   | true =>
     rcases hst k o r ho hr with ⟨_,rfl⟩ | ⟨_,hs⟩
     . simp at hne
     . exact absurd (LL hp hs) hne
 intro fuel
 induction fuel with
 | zero =>
   intro listed a E w hls aby Hr hm
   have Et:∀ i,i<ops.size->listed.getD i false=true:=by
     intro i hi
     have:=yT (X:=fun i=>listed.getD i false) (List.range ops.size) (by simpa using aby) i (List.mem_range.2 hi)
     exact this
   refine ⟨?_,hQ a E w ?_⟩
   . apply List.eq_nil_iff_forall_not_mem.2
     intro j hj
     obtain ⟨h1,o,h2,_⟩:=mem_ready.1 hj
     have qu:j<ops.size:=(Array.getElem?_eq_some_iff.1 h2).1
     have:=Et j qu
     rw [Array.getD_eq_getD_getElem?] at h1 this
     cases hh:listed[j]? with
     | none=>simp [hh] at this
     | some b=>simp [hh] at h1 this;simp [h1] at this
   . have e1:dM (fun i=>listed.getD i false) L 0 t0=dM (fun _=>true) L 0 t0:=vW L 0 t0 (fun k hk=>by rw [Nat.zero_add];exact Et k (by omega))
     have e2:e7 (fun i=>listed.getD i false) L 0 σ0=e7 (fun _=>true) L 0 σ0:=wa L 0 σ0 (fun k hk=>by rw [Nat.zero_add];exact Et k (by omega))
     exact ⟨e1▸hm.frame,e2▸hm.inv,hm.Au,by simp,hm.more,hm.defers⟩
 | succ fuel ih =>
   intro listed a E w hls aby Hr hm
   have abz:∀ i,i<ops.size->listed.getD i true=listed.getD i false:=by
     intro i hi
     rw [Array.getD_eq_getD_getElem?,Array.getD_eq_getD_getElem?,Array.getElem?_eq_getElem (by omega)]
     rfl
   have U2:∀ (j:Nat) (o:Oper),ops[j]? = some o->lM.getD j []=sf o:=by
     intro j o ho
     rw [<- abw]
     have hj:j<ops.size:=(Array.getElem?_eq_some_iff.1 ho).1
     have he:ops[j]=o:=(Array.getElem?_eq_some_iff.1 ho).2
     simp [List.getD,hj,he]
   refine ⟨?_, ?_⟩
   . -- nothing is ready: all is done
     intro uq
     have Et : ∀ i,i<ops.size->listed.getD i false=true:=by
       intro i
       induction i using Nat.strongRecOn with
       | _ i ihi =>
         intro hi
         cases hh:listed.getD i false with
         | true=>rfl
         | false =>
           exfalso
           have fP:i∈Region.ready .any ops listed:=by
             refine mem_ready.2 ⟨(abz i hi).trans hh,ops[i],by simp [hi], ?_⟩
             intro e he hb
             have ahp:e.on∈lM.getD i []:=by
               rw [U2 i ops[i] (by simp [hi])]
               unfold sf
               exact List.mem_map.2 ⟨e,List.mem_filter.2 ⟨by simpa using he,hb⟩,rfl⟩
             have:=Xs i hi e.on ahp
             exact ihi e.on this (by omega)
           rw [uq] at fP
           simp at fP
     have e1:dM (fun i=>listed.getD i false) L 0 t0=dM (fun _=>true) L 0 t0:=vW L 0 t0 (fun k hk=>by rw [Nat.zero_add];exact Et k (by omega))
     have e2:e7 (fun i=>listed.getD i false) L 0 σ0=e7 (fun _=>true) L 0 σ0:=wa L 0 σ0 (fun k hk=>by rw [Nat.zero_add];exact Et k (by omega))
     exact hQ a E w ⟨e1▸hm.frame,e2▸hm.inv,hm.Au,by simp,hm.more,hm.defers⟩
   . intro j hj
     obtain ⟨h1,o,ho,abA⟩:=mem_ready.1 hj
     have Ls:j<ops.size:=(Array.getElem?_eq_some_iff.1 ho).1
     have hXj:listed.getD j false=false:=(abz j Ls).symm.trans h1
     generalize hX:(fun i=>listed.getD i false)=X at *
     have hXd:∀ i,listed.getD i false=X i:=fun i=>by rw [<- hX]
     simp only [hXd] at Hr hXj
     have me:∀ e∈lM.getD j [],X e=true:=by
       intro e he
       rw [U2 j o ho] at he
       unfold sf at he
       obtain ⟨ed,hed,rfl⟩:=List.mem_map.1 he
       obtain ⟨h3,h4⟩:=List.mem_filter.1 hed
       rw [<- hXd]
       exact abA ed (by simpa using h3) h4
     have pre:∀ i,((g9 lM []).getD j 0).testBit i=true->X i=true:=wY Xs Hr j Ls me
     have post:∀ k,k<ops.size->X k=true->((g9 lM []).getD k 0).testBit j=false:=by
       intro k hk xL
       cases hb:((g9 lM []).getD k 0).testBit j with
       | false=>rfl
       | true=>have:=wY Xs Hr k hk (Hr k hk xL) j hb;simp [hXj] at this
     -- the operation
     have s7:∃ vo,vs[j]? = some vo/\sc P ops o=some vo:=by
       have hjv:j<vs.length:=by omega
       obtain ⟨o',h3,h4⟩:=mapM_some_get Hq j vs[j] (by simp [hjv])
       have:o'=o:=by
         have h5:ops.toList[j]? = some o:=by simpa using ho
         rw [h5] at h3;simpa using h3.symm
       subst this
       exact ⟨vs[j],by simp [hjv],h4⟩
     obtain ⟨vo,yU,s7⟩:=s7
     obtain ⟨hop,Og⟩:=Ew s7
     have hrj:j<rs.length:=by omega
     obtain ⟨r,hr⟩:∃ r,rs[j]? = some r:=⟨rs[j],by simp [hrj]⟩
     have hsc:=hst j vo r yU hr
     rw [Nat.zero_add] at hsc
     -- a slot that it names
     have slot:∀ s∈vo.names,(dM X L 0 t0)[s]? = (dM (fun m=>m<j) L 0 t0)[s]? := by
       intro s hs
       refine mR L 0 t0 t0 rfl ?_
       intro k d r' hk hne U3
       rw [Nat.zero_add] at hne
       obtain ⟨ok,h3,h4,h5⟩:=(Jd k d r').1 hk
       subst U3
       have SN:k<ops.size:=by have:=(List.getElem?_eq_some_iff.1 h3).1;omega
       rcases Nat.lt_trichotomy k j with qC | rfl | SW
       . have xL:X k=false:=by
           cases hh:X k with
           | false=>rfl
           | true=>simp [hh,qC] at hne
         have hc:wS ok vo=true:=by unfold wS;simp [h4,hs]
         have:=pre k (Ar k j ok vo qC h3 yU hc)
         simp [xL] at this
       . simp [hXj] at hne
       . have xL:X k=true:=by
           cases hh:X k with
           | true=>rfl
           | false=>simp [hh,Nat.not_lt.2 (Nat.le_of_lt SW)] at hne
         have hc:wS vo ok=true:=by unfold wS;simp [h4,hs]
         have:=Ar j k vo ok SW yU h3 hc
         rw [post k SN xL] at this
         simp at this
     have ahr:vo.op.map (aI.ev G (dM X L 0 t0))=vo.op.map (aI.ev G (dM (fun m=>m<j) L 0 t0)):=by
       refine eL.map_congr _ fun x hx=>Oh x fun s hs=>slot s ?_
       unfold bc.names
       exact List.mem_append_left _ (List.mem_filterMap.2 ⟨x,hx,hs⟩)
     have U4:dL (dM X L 0 t0) vo.guard=dL (dM (fun m=>m<j) L 0 t0) vo.guard:=by
       cases hg:vo.guard with
       | none=>rfl
       | some q =>
         obtain ⟨s,want⟩:=q
         have:=slot s (by unfold bc.names;simp [hg])
         simp only [dL,this]
     have Xd:∀ id∈r.rd,e7 X L 0 σ0 id=e7 (fun m=>m<j) L 0 σ0 id:=by
       intro id kY
       refine mS L 0 σ0 σ0 rfl ?_
       intro k d r' hk hne fP
       rw [Nat.zero_add] at hne
       obtain ⟨ok,h3,h4,h5⟩:=(Jd k d r').1 hk
       have SN:k<ops.size:=by have:=(List.getElem?_eq_some_iff.1 h3).1;omega
       have hpk:ok.op.pure=false:=touch k ok r' h3 h5 (.inr (by intro e;simp [e] at fP))
       have hpj:vo.op.pure=false:=touch j vo r yU hr (.inl (by intro e;simp [e] at kY))
       have Xt:ok.op.nx=false:=Oj k ok r' h3 h5 (by intro e;simp [e] at fP)
       obtain ⟨x,hx,rfl⟩:=List.mem_map.1 fP
       rcases Nat.lt_trichotomy k j with qC | rfl | SW
       . have xL:X k=false:=by
           cases hh:X k with
           | false=>rfl
           | true=>simp [hh,qC] at hne
         have hb:((g9 lM []).getD j 0).testBit k=false:=by
           cases hb:((g9 lM []).getD j 0).testBit k with
           | false=>rfl
           | true=>have:=pre k hb;simp [xL] at this
         exact ((lr k j ok vo qC h3 yU hpk hpj (by simp [Xt]) hb r' r h5 hr).1 x hx).1 kY
       . simp [hXj] at hne
       . have xL:X k=true:=by
           cases hh:X k with
           | true=>rfl
           | false=>simp [hh,Nat.not_lt.2 (Nat.le_of_lt SW)] at hne
         exact (lr j k vo ok SW yU h3 hpj hpk (by simp [Xt]) (post k SN xL) r r' hr h5).2 x hx kY
     -- behind it
     generalize hX':(fun i=>if i=j then true else X i)=X' at *
     have Sn:∀ i,X' i=if i=j then true else X i:=fun i=>by rw [<- hX']
     have later:∀ (k:Nat) (d:Option Nat) (r':dH),L[k]? = some (d,r')->j<k->X' k=true->∃ ok:bc,vs[k]? = some ok/\ok.dst=d/\rs[k]? = some r'/\k<ops.size/\X k=true:=by
       intro k d r' hk qC xL
       obtain ⟨ok,h3,h4,h5⟩:=(Jd k d r').1 hk
       refine ⟨ok,h3,h4,h5,by have:=(List.getElem?_eq_some_iff.1 h3).1;omega, ?_⟩
       rw [Sn] at xL
       simpa [show k≠j from by omega] using xL
     have hLj:L[j]? = some (vo.dst,r):=(Jd j _ _).2 ⟨vo,yU,rfl,hr⟩
     have tEq:e9 (dM X L 0 t0) vo.dst r.val=dM X' L 0 t0:=by
       apply List.ext_getElem?
       intro s
       rw [n7]
       by_cases hd:vo.dst=some s
       . rw [if_pos hd]
         rw [yO L 0 j t0 (by rw [hLj,hd]) (by rw [Nat.zero_add,Sn];simp) ?_,Bo]
         intro k d r' hk qC xL U3
         rw [Nat.zero_add] at xL
         obtain ⟨ok,h3,h4,h5,SN,Xu⟩:=later k d r' hk qC xL
         have hc:wS vo ok=true:=by unfold wS;simp [hd,h4,U3]
         have:=Ar j k vo ok qC yU h3 hc
         rw [post k SN Xu] at this
         simp at this
       . rw [if_neg hd]
         refine mR L 0 t0 t0 rfl ?_
         intro k d r' hk hne
         rw [Nat.zero_add,Sn] at hne
         have hkj:k=j:=by
           apply Classical.byContradiction;intro h;simp [h] at hne
         subst hkj
         rw [hLj] at hk
         simp only [Option.some.injEq,Prod.mk.injEq] at hk
         rw [<- hk.1];exact hd
     have sEq:(e7 X L 0 σ0).app r.up=e7 X' L 0 σ0:=by
       funext id
       by_cases fP:id∈r.up.map (·.1)
       . symm
         refine yP L 0 j σ0 hLj (by rw [Nat.zero_add,Sn];simp) fP ?_
         intro k d r' hk qC xL abC
         rw [Nat.zero_add] at xL
         obtain ⟨ok,h3,h4,h5,SN,Xu⟩:=later k d r' hk qC xL
         have hpk:ok.op.pure=false:=touch k ok r' h3 h5 (.inr (by intro e;simp [e] at abC))
         have hpj:vo.op.pure=false:=touch j vo r yU hr (.inr (by intro e;simp [e] at fP))
         have Xv:vo.op.nx=false:=Oj j vo r yU hr (by intro e;simp [e] at fP)
         obtain ⟨x,hx,rfl⟩:=List.mem_map.1 fP
         exact ((lr j k vo ok qC yU h3 hpj hpk (by simp [Xv]) (post k SN Xu) r r' hr h5).1 x hx).2 abC
       . rw [ae.rr fP]
         refine mS L 0 σ0 σ0 rfl ?_
         intro k d r' hk hne
         rw [Nat.zero_add,Sn] at hne
         have hkj:k=j:=by
           apply Classical.byContradiction;intro h;simp [h] at hne
         subst hkj
         rw [hLj] at hk
         simp only [Option.some.injEq,Prod.mk.injEq] at hk
         rw [<- hk.2];exact fP
     -- going on
     have hXl:∀ i,(listed.setIfInBounds j true).getD i false=X' i:=by
       intro i
       rw [Sn]
       by_cases e:i=j
       . subst e
         rw [Array.getD_eq_getD_getElem?]
         simp [hls,Ls]
       . rw [if_neg e,getD_set_ne false (fun h=>e h.symm),hXd]
     have go : ∀ (a':Act) (E':Env) (w':World),bW E' w' (dM X' L 0 t0) a'->Inv G own E' w' (e7 X' L 0 σ0)->jr own π E E' w w'->(∀ i:Id, ¬ ((base+j) :: π) <:+ i->E'.μ i=E.μ i)->a'.defers=a.defers ->
         wpAny P .any ops Q fuel (listed.setIfInBounds j true) a' w':=by
       intro a' E' w' Sw kN had SV hde
       have Ly:(fun i=>(listed.setIfInBounds j true).getD i false)=X':=funext hXl
       refine ih _ a' E' w' (by simpa using hls) ?_ ?_ ?_
       . rw [Ly]
         have:=Bu (X:=X) (Y:=X') (i:=j) hXj (by rw [Sn];simp) (fun k hk=>by rw [Sn];split<;>simp [hk]) (List.range ops.size) (List.mem_range.2 Ls)
         omega
       . intro k hk xL e he
         rw [hXl] at xL ⊢
         rw [Sn] at xL ⊢
         split
         . rfl
         . by_cases hkj:k=j
           . subst hkj;exact me e he
           . rw [if_neg hkj] at xL
             exact Hr k hk xL e he
       . rw [Ly]
         refine ⟨Sw,kN,hm.Au.trans had, ?_, ?_,hde.trans hm.defers⟩
         . intro i hi hxi j'
           rw [Sn] at hxi
           have LM:i≠j:=by rintro rfl;simp at hxi
           rw [if_neg LM] at hxi
           intro hj'
           rw [SV _ (Ey hj' (by omega))]
           exact hm.free i hi hxi j' hj'
         . intro j' hj' hq
           rw [SV _ (hq (base+j) (by omega))]
           exact hm.more j' hj' hq
     unfold wpOp
     rw [ho]
     simp only []
     rcases hsc with ⟨x6,rfl⟩ | ⟨p5,Nu⟩
     . rw [pt s7 hm.frame (U4.trans x6)]
       simp only [Bool.false_eq_true,if_false]
       refine go _ E w ?_ ?_ (jr.refl own π E w) (fun _ _=>rfl) (mU _ _ _)
       . rw [<- tEq, <- Og];exact Bq hm.frame _
       . rw [<- sEq];exact hm.inv
     . rw [pt s7 hm.frame (U4.trans p5)]
       simp only [if_true]
       left
       rw [<- ahr] at Nu
       refine yN hm.inv (hm.free j Ls hXj) hm.frame hop (AM Nu Xd) ?_
       intro v w' E' hp
       refine go _ E' w' ?_ ?_ hp.abu hp.ids (mU _ _ _)
       . rw [<- tEq, <- Og];exact hp.frame hm.frame _
       . rw [<- sEq];exact hp.inv
end
end Go.VL
end

section
namespace Go.VL
inductive bP where
 | normal
 | exit (id:Nat)
 | ret
def bP.real:bP->Exit
 | .normal => .normal
 | .exit id => .exit id
 | .ret => .ret
structure VS where
 t:List AV
 σ : ae
 n:Nat
structure iY (G:Nat->Option (List AV)) (π : Id) (own:Nat->Prop) (E:Env) (w:World) (s:VS) (a:Act):Prop where
 frame:bW E w s.t a
 inv:Inv G own E w s.σ
 free:rX E π s.n
 defers:a.defers=[]
def Wk (G:Nat->Option (List AV)) (π : Id) (s s':VS):Prop:=∀ own E w a,iY G π own E w s a->∃ E',jr own π E E' w w/\iY G π own E' w s' a
def VW (P:Program) (G:Nat->Option (List AV)) (π : Id) (vc:bJ) (Q:bP->VS->Prop) (s:VS):Prop :=
 ∀ c,eW P c=some vc->∀ own E w a (R:Exit->Act->World->Prop),iY G π own E w s a ->
   (∀ e s' E' w' a',Q e s'->jr own π E E' w w'->iY G π own E' w' s' a'->R e.real a' w')->c.wp P R a w
section
variable {P:Program} {G:Nat->Option (List AV)} {π : Id} {Q:bP->VS->Prop} {s:VS}
theorem Wk.refl (G:Nat->Option (List AV)) (π : Id) (s:VS):Wk G π s s:=fun own E w _ h=>⟨E,jr.refl own π E w,h⟩
theorem Wk.trans {s s' s'':VS} (h:Wk G π s s') (k:Wk G π s' s''):Wk G π s s'':=fun own E w a hm=>by
 obtain ⟨E1,a1,m1⟩:=h own E w a hm
 obtain ⟨E2,a2,m2⟩:=k own E1 w a m1
 exact ⟨E2,a1.trans a2,m2⟩
theorem VW.wk {vc:bJ} {s':VS} (h:Wk G π s s') (k:VW P G π vc Q s'):VW P G π vc Q s:=by
 intro c hc own E w a R hm hR
 obtain ⟨E1,a1,m1⟩:=h own E w a hm
 exact k c hc own E1 w a R m1 fun e s2 E2 w2 a2 hq ad mm=>hR e s2 E2 w2 a2 hq (a1.trans ad) mm
theorem VW.mono {vc:bJ} {Q':bP->VS->Prop} (h:VW P G π vc Q s) (hq:∀ e s,Q e s->Q' e s):VW P G π vc Q' s :=
 fun c hc own E w a R hm hR=>h c hc own E w a R hm fun e s2 E2 w2 a2 LO=>hR e s2 E2 w2 a2 (hq e s2 LO)
theorem VW.skip (h:Q .normal s):VW P G π .skip Q s:=by
 intro c hc own E w a R hm hR
 cases c<;>simp only [eW,Option.some.injEq,reduceCtorEq] at hc
 . exact wp_skip (hR .normal s E w a h (jr.refl own π E w) hm)
 . exfalso;revert hc;unfold iX;(repeat' split)<;>simp
 all_goals (exfalso;revert hc;(repeat' split)<;>simp)
theorem ur {c:Code} {ps:Option (List (Nat × Nat))} {vs:List bc} (hc:eW P c=some (.reg ps vs)):∃ id ops draw,c = .region id ops draw/\ops.toList.mapM (sc P ops)=some vs /\
   ((draw=false/\ps=none)∨(draw=true/\ps=some (rj vs (ops.toList.map sf))/\xZ vs (ops.toList.map sf)=true/\P.follows .mixedOrders=true)):=by
 cases c with
 | region id ops draw =>
   simp only [eW,iX] at hc
   cases hm:ops.toList.mapM (sc P ops) with
   | none=>simp [hm] at hc
   | some vs' =>
     simp only [hm] at hc
     split at hc
     . rename_i hd
       split at hc
       . rename_i ho
         simp only [Option.some.injEq,bJ.reg.injEq] at hc
         obtain ⟨rfl,rfl⟩:=hc
         simp only [Bool.and_eq_true] at ho
         exact ⟨id,ops,draw,rfl,hm, .inr ⟨hd,rfl,ho.1,ho.2⟩⟩
       . simp at hc
     . rename_i hd
       simp only [Option.some.injEq,bJ.reg.injEq] at hc
       obtain ⟨rfl,rfl⟩:=hc
       exact ⟨id,ops,draw,rfl,hm, .inl ⟨by simpa using hd,rfl⟩⟩
 | _=>exfalso;revert hc;simp only [eW];(repeat' split)<;>simp
theorem VW.Ol {vs:List bc} (h:ui P G π s.n (fun t σ => Q .normal ⟨t, σ,s.n+vs.length⟩) vs 0 s.t s.σ):VW P G π (.reg none vs) Q s:=by
 intro c hc own E w a R hm hR
 obtain ⟨id,ops,draw,rfl,Hq,Sk⟩:=ur hc
 have hd:draw=false:=by
   rcases Sk with ⟨h,_⟩ | ⟨_,h,_⟩
   . exact h
   . simp at h
 subst hd
 have hl:ops.toList.length=vs.length:=(fq Hq).symm
 refine wp_region ?_
 have:=yS (P:=P) (G:=G) (own:=own) (ops:=ops) (Q:=R) ops.toList 0 (fun k=>by simp) vs Hq s.t s.σ a E w h hm.frame hm.inv hm.free (by
   intro t' σ' a' E' w' hk had hf hi Aq hde
   refine hR .normal ⟨t', σ',s.n+vs.length⟩ E' w' a' hk had ⟨hf,hi,by have h:=Aq;simp only [Nat.add_zero,hl] at h;exact h,hde.trans hm.defers⟩)
 rw [List.range_eq_range']
 simpa using this
theorem VW.Om {ps:List (Nat × Nat)} {vs:List bc} (h:uj P G π s.n (fun rs t σ => aB rs ps/\Q .normal ⟨t, σ,s.n+vs.length⟩) vs 0 [] s.t s.σ):VW P G π (.reg (some ps) vs) Q s:=by
 intro c hc own E w a R hm hR
 obtain ⟨id,ops,draw,rfl,Hq,Sk⟩:=ur hc
 rcases Sk with ⟨_,h2⟩ | ⟨hd,Hi,Oi,hmx⟩
 . simp at h2
 . subst hd
   simp only [Option.some.injEq] at Hi
   have hl:vs.length=ops.size:=by have:=fq Hq;simpa using this
   obtain ⟨rs,hrl,hst,hap,hq⟩:=Bp h
   refine wp_region_any hmx ?_
   have ahs:Mid G π own ((vs.map (·.dst)).zip rs) s.n ops.size s.t s.σ a E w (fun i=>(Array.replicate ops.size false).getD i false) E w.drew a:=by
     have hX:∀ i,(Array.replicate ops.size false).getD i false=false:=by intro i;rw [Array.getD_eq_getD_getElem?];simp [Array.getElem?_replicate];split<;>rfl
     have e1:dM (fun i=>(Array.replicate ops.size false).getD i false) ((vs.map (·.dst)).zip rs) 0 s.t=s.t:=ny _ _ _ fun k _=>hX _
     have e2:e7 (fun i=>(Array.replicate ops.size false).getD i false) ((vs.map (·.dst)).zip rs) 0 s.σ = s.σ := nz _ _ _ fun k _=>hX _
     exact ⟨by rw [e1];exact hm.frame.keep (Adv.drew (own:=own) E w).step,by rw [e2];exact hm.inv.drew,⟨Adv.drew E w,fun _ _=>rfl⟩,fun i _ _ j hj=>hm.free.at (by omega) hj,hm.free.mono (by omega),rfl⟩
   refine LN Hq Oi hrl hst (by rw [<- Hi];simpa using hap) (Q:=R) (a0:=a) (E0:=E) (w0:=w) ?_ ops.size (Array.replicate ops.size false) a E w.drew (by simp) (by simp) ?_ ahs
   . intro a' E' w' hmd
     refine hR .normal _ E' w' a' hq hmd.Au ⟨hmd.frame,hmd.inv,by rw [hl];exact hmd.more,hmd.defers.trans hm.defers⟩
   . intro k hk hx
     rw [Array.getD_eq_getD_getElem?] at hx
     simp [hk] at hx
theorem VW.seq {x y:bJ} (h:VW P G π x (fun e s'=>match e with | .normal=>VW P G π y Q s' | e=>Q e s') s):VW P G π (.seq x y) Q s:=by
 intro c hc own E w a R hm hR
 cases c<;>simp only [eW,Option.some.injEq,reduceCtorEq] at hc
 case seq ca cb =>
   cases h1:eW P ca with
   | none=>simp [h1] at hc
   | some va =>
   cases h2:eW P cb with
   | none=>simp [h1,h2] at hc
   | some vb =>
     simp only [h1,h2,Option.some.injEq,bJ.seq.injEq] at hc
     obtain ⟨rfl,rfl⟩:=hc
     refine wp_seq (h ca h1 own E w a _ hm ?_)
     intro e s' E' w' a' hq had mG
     cases e with
     | normal=>exact hq cb h2 own E' w' a' R mG fun e2 s2 E2 w2 a2 LO LP mm2=>hR e2 s2 E2 w2 a2 LO (had.trans LP) mm2
     | exit id=>exact hR (.exit id) s' E' w' a' hq had mG
     | ret=>exact hR .ret s' E' w' a' hq had mG
 case region=>exfalso;revert hc;unfold iX;(repeat' split)<;>simp
 all_goals (exfalso;revert hc;(repeat' split)<;>simp)
theorem VW.cond {vc:aI} {x y:bJ} {b:Bool} (hb:vc.ev G s.t = .bool b) (h:if b then VW P G π x Q s else VW P G π y Q s):VW P G π (.cond vc x y) Q s:=by
 intro c hc own E w a R hm hR
 cases c<;>simp only [eW,Option.some.injEq,reduceCtorEq] at hc
 case cond cc ca cb =>
   cases h0:cg cc with
   | none=>simp [h0] at hc
   | some vcc =>
   cases h1:eW P ca with
   | none=>simp [h0,h1] at hc
   | some va =>
   cases h2:eW P cb with
   | none=>simp [h0,h1,h2] at hc
   | some vb =>
     simp only [h0,h1,h2,Option.some.injEq,bJ.cond.injEq] at hc
     obtain ⟨rfl,rfl,rfl⟩:=hc
     have hr:=aJ hm.frame hm.inv h0
     rw [hb] at hr
     simp only [aG] at hr
     refine wp_cond hr ?_
     cases b with
     | true=>simp only [if_true] at h ⊢;exact h ca h1 own E w a R hm hR
     | false=>simp only [Bool.false_eq_true,if_false] at h ⊢;exact h cb h2 own E w a R hm hR
 case region=>exfalso;revert hc;unfold iX;(repeat' split)<;>simp
 all_goals (exfalso;revert hc;(repeat' split)<;>simp)
theorem VW.SX {vc:aI} {x y:bJ} (hb:vc.ev G s.t = .anyb) (h1:VW P G π x Q s) (h2:VW P G π y Q s):VW P G π (.cond vc x y) Q s:=by
 intro c hc own E w a R hm hR
 cases c<;>simp only [eW,Option.some.injEq,reduceCtorEq] at hc
 case cond cc ca cb =>
   cases h0:cg cc with
   | none=>simp [h0] at hc
   | some vcc =>
   cases h3:eW P ca with
   | none=>simp [h0,h3] at hc
   | some va =>
   cases h4:eW P cb with
   | none=>simp [h0,h3,h4] at hc
   | some vb =>
     simp only [h0,h3,h4,Option.some.injEq,bJ.cond.injEq] at hc
     obtain ⟨rfl,rfl,rfl⟩:=hc
     have hr:=aJ hm.frame hm.inv h0
     rw [hb] at hr
     simp only [aG] at hr
     obtain ⟨b,hr⟩:=hr
     refine wp_cond hr ?_
     cases b with
     | true=>exact h1 ca h3 own E w a R hm hR
     | false=>exact h2 cb h4 own E w a R hm hR
 case region=>exfalso;revert hc;unfold iX;(repeat' split)<;>simp
 all_goals (exfalso;revert hc;(repeat' split)<;>simp)
theorem VW.block {id:Nat} {x:bJ} (h:VW P G π x (fun e s'=>match e with | .exit i=>if i=id then Q .normal s' else Q (.exit i) s' | e=>Q e s') s):VW P G π (.block id x) Q s:=by
 intro c hc own E w a R hm hR
 cases c<;>simp only [eW,Option.some.injEq,reduceCtorEq] at hc
 case block i cb =>
   cases h1:eW P cb with
   | none=>simp [h1] at hc
   | some vb =>
     simp only [h1,Option.map_some,Option.some.injEq,bJ.block.injEq] at hc
     obtain ⟨rfl,rfl⟩:=hc
     refine wp_block (h cb h1 own E w a _ hm ?_)
     intro e s' E' w' a' hq had mG
     cases e with
     | normal=>exact hR .normal s' E' w' a' hq had mG
     | exit j =>
       simp only [bP.real,Exit.inBlock]
       split
       . rename_i hj;simp only [hj,if_true] at hq;exact hR .normal s' E' w' a' hq had mG
       . rename_i hj;simp only [hj,if_false] at hq;exact hR (.exit j) s' E' w' a' hq had mG
     | ret=>exact hR .ret s' E' w' a' hq had mG
 case region=>exfalso;revert hc;unfold iX;(repeat' split)<;>simp
 all_goals (exfalso;revert hc;(repeat' split)<;>simp)
theorem VW.exit {id:Nat} (h:Q (.exit id) s):VW P G π (.exit id) Q s:=by
 intro c hc own E w a R hm hR
 cases c<;>simp only [eW,Option.some.injEq,reduceCtorEq] at hc
 case exit i =>
   simp only [bJ.exit.injEq] at hc;subst hc
   exact wp_exit (hR (.exit i) s E w a h (jr.refl own π E w) hm)
 case region=>exfalso;revert hc;unfold iX;(repeat' split)<;>simp
 all_goals (exfalso;revert hc;(repeat' split)<;>simp)
theorem VW.ret (h:Q .ret s):VW P G π .ret Q s:=by
 intro c hc own E w a R hm hR
 cases c<;>simp only [eW,Option.some.injEq,reduceCtorEq] at hc
 case ret=>exact wp_ret (hR .ret s E w a h (jr.refl own π E w) hm)
 case region=>exfalso;revert hc;unfold iX;(repeat' split)<;>simp
 all_goals (exfalso;revert hc;(repeat' split)<;>simp)
theorem qD {α : Type} {c:Code} {R:Exit->Act->World->Prop} (I : α -> Act->World->Prop) (μ : α -> Nat) {x : α} {a:Act} {w:World} (h₀:I x a w)
   (round:∀ x a w,I x a w->c.wp P (Exit.then (fun a' w'=>∃ x',I x' a' w' /\ μ x' < μ x) R) a w):(Code.loop c).wp P R a w:=by
 intro b k cs
 have key:∀ n x a w, μ x=n->I x a w ->
     ∃ e a' w',R e a' w'/\Arrives P (lone (b.at a (.code c :: .inLoop c::k)) cs w) b k cs e a' w':=by
   intro n
   induction n using Nat.strongRecOn with
   | _ n ih =>
     intro x a w hn hI
     obtain ⟨e,a₁,w₁,hq,EB⟩:=round x a w hI b (.inLoop c::k) cs
     cases e with
     | normal =>
       obtain ⟨x₁,hI₁,hlt⟩:=hq
       obtain ⟨e₂,a₂,w₂,hq₂,SY⟩:=ih (μ x₁) (hn▸hlt) x₁ a₁ w₁ rfl hI₁
       exact ⟨e₂,a₂,w₂,hq₂, .of_steps (Steps.trans EB (.one step_inLoop)) SY⟩
     | exit id=>exact ⟨_,a₁,w₁,hq, .pass (x := .inLoop c) rfl (fun _ _ => .inl (by simp)) EB⟩
     | goto l=>exact ⟨_,a₁,w₁,hq, .pass (x := .inLoop c) rfl (fun _ _ => .inl (by simp)) EB⟩
     | ret=>exact ⟨_,a₁,w₁,hq, .pass (x := .inLoop c) rfl (fun _ _ => .inl (by simp)) EB⟩
     | panic ch=>exact ⟨_,a₁,w₁,hq, .pass (x := .inLoop c) rfl (fun _ _ => .inl (by simp)) EB⟩
     | outgrown=>exact ⟨_,a₁,w₁,hq, .pass (x := .inLoop c) rfl (fun _ _ => .inl (by simp)) EB⟩
 obtain ⟨e,a',w',hq,EB⟩:=key _ x a w rfl h₀
 exact ⟨e,a',w',hq, .of_steps (.one step_loop) EB⟩
theorem VW.loop {x:bJ} (I:VS->Prop) (m:VS->Nat) (h0:∃ s',Wk G π s s'/\I s')
   (h:∀ s,I s->VW P G π x (fun e s'=>match e with | .normal=>∃ s'',Wk G π s' s''/\I s''/\m s''<m s | e=>Q e s') s):VW P G π (.loop x) Q s:=by
 obtain ⟨s1,p5,hI1⟩:=h0
 refine VW.wk p5 ?_
 intro c hc own E w a R hm hR
 cases c<;>simp only [eW,Option.some.injEq,reduceCtorEq] at hc
 case loop cb =>
   cases h1:eW P cb with
   | none=>simp [h1] at hc
   | some vb =>
     simp only [h1,Option.map_some,Option.some.injEq,bJ.loop.injEq] at hc
     subst hc
     refine qD (α := VS) (fun s' a' w'=>I s'/\∃ E',jr own π E E' w w'/\iY G π own E' w' s' a') m (x:=s1) ⟨hI1,E,jr.refl own π E w,hm⟩ ?_
     rintro s2 a2 w2 ⟨hI2,E2,LP,uf⟩
     refine h s2 hI2 cb h1 own E2 w2 a2 _ uf ?_
     intro e s' E' w' a' hq had mG
     cases e with
     | normal =>
       obtain ⟨s3,hw3,hI3,hlt⟩:=hq
       obtain ⟨E3,ad3,hm3⟩:=hw3 own E' w' a' mG
       exact ⟨s3,⟨hI3,E3,(LP.trans had).trans ad3,hm3⟩,hlt⟩
     | exit id=>exact hR (.exit id) s' E' w' a' hq (LP.trans had) mG
     | ret=>exact hR .ret s' E' w' a' hq (LP.trans had) mG
 case region=>exfalso;revert hc;unfold iX;(repeat' split)<;>simp
 all_goals (exfalso;revert hc;(repeat' split)<;>simp)
def Then (k:VS->Prop) (Q:bP->VS->Prop):bP->VS->Prop
 | .normal,s=>k s
 | .exit i,s=>Q (.exit i) s
 | .ret,s=>Q .ret s
def LQ (id:Nat) (Q:bP->VS->Prop):bP->VS->Prop
 | .normal,s=>Q .normal s
 | .exit i,s=>if i=id then Q .normal s else Q (.exit i) s
 | .ret,s=>Q .ret s
theorem qE (k:VS->Prop) (Q:bP->VS->Prop) (s:VS):Then k Q .normal s=k s:=(rfl)
theorem Bv (k:VS->Prop) (Q:bP->VS->Prop) (i:Nat) (s:VS):Then k Q (.exit i) s=Q (.exit i) s:=(rfl)
theorem EC (k:VS->Prop) (Q:bP->VS->Prop) (s:VS):Then k Q .ret s=Q .ret s:=(rfl)
theorem w6 (id:Nat) (Q:bP->VS->Prop) (s:VS):LQ id Q .normal s=Q .normal s:=(rfl)
theorem wb (id:Nat) (Q:bP->VS->Prop) (i:Nat) (s:VS):LQ id Q (.exit i) s=if i=id then Q .normal s else Q (.exit i) s:=(rfl)
theorem ED (id:Nat) (Q:bP->VS->Prop) (s:VS):LQ id Q .ret s=Q .ret s:=(rfl)
def qF (P:Program) (G:Nat->Option (List AV)) (π : Id):bJ->(bP->VS->Prop)->VS->Prop
 | .skip,Q,s=>Q .normal s
 | .reg none vs,Q,s=>ui P G π s.n (fun t σ => Q .normal ⟨t, σ,s.n+vs.length⟩) vs 0 s.t s.σ
 | .reg (some ps) vs,Q,s=>uj P G π s.n (fun rs t σ => aB rs ps/\Q .normal ⟨t, σ,s.n+vs.length⟩) vs 0 [] s.t s.σ
 | .seq x y,Q,s=>qF P G π x (Then (qF P G π y Q) Q) s
 | .cond c x y,Q,s=>match c.ev G s.t with
   | .bool b=>if b then qF P G π x Q s else qF P G π y Q s
   | .anyb=>qF P G π x Q s/\qF P G π y Q s
   | _=>False
 | .block id x,Q,s=>qF P G π x (LQ id Q) s
 | .loop x,Q,s=>VW P G π (.loop x) Q s
 | .exit id,Q,s=>Q (.exit id) s
 | .ret,Q,s=>Q .ret s
theorem VW.of:∀ {vc:bJ} {Q:bP->VS->Prop} {s:VS},qF P G π vc Q s->VW P G π vc Q s
 | .skip,_,_,h=>VW.skip h
 | .reg none _,_,_,h=>VW.Ol h
 | .reg (some _) _,_,_,h=>VW.Om h
 | .seq x y,Q,s,h=>by
   refine VW.seq (VW.mono (VW.of (vc:=x) h) ?_)
   intro e s' hq
   cases e with
   | normal=>exact VW.of (vc:=y) hq
   | exit id=>exact hq
   | ret=>exact hq
 | .cond c x y,Q,s,h=>by
   simp only [qF] at h
   split at h
   . rename_i b hb
     refine VW.cond hb ?_
     cases b with
     | true=>exact VW.of (vc:=x) h
     | false=>exact VW.of (vc:=y) h
   . rename_i hb
     exact VW.SX hb (VW.of (vc:=x) h.1) (VW.of (vc:=y) h.2)
   . exact h.elim
 | .block id x,Q,s,h=>by
   refine VW.block (VW.mono (VW.of (vc:=x) h) ?_)
   intro e s' hq
   cases e with
   | normal=>exact hq
   | exit i=>exact hq
   | ret=>exact hq
 | .loop x,Q,s,h=>h
 | .exit id,_,_,h=>VW.exit h
 | .ret,_,_,h=>VW.ret h
end
end Go.VL
end

section
namespace Go.VL
section
variable {P:Program} {G:Nat->Option (List AV)} {own:Nat->Prop} {E:Env} {w:World} {σ : ae}
def af (c:AV):Prop:=∀ E w v,aG E w c v->aG E.bare w c v
theorem af.bool (b:Bool):af (.bool b):=fun _ _ _ h=>by simpa [aG] using h
theorem af.int (k:IntKind) (n:Int):af (.int k n):=fun _ _ _ h=>by simpa [aG] using h
theorem af.str (l:List UInt8):af (.str l):=fun _ _ _ h=>by simpa [aG] using h
theorem af.nilp:af .nilp:=fun _ _ _ h=>by simpa [aG] using h
theorem af.nilf:af .nilf:=fun _ _ _ h=>by simpa [aG] using h
theorem af.nils:af .nils:=fun _ _ _ h=>by simpa [aG] using h
theorem af.xM {cs:List AV} (h:∀ c∈cs,af c):∀ {vs:List Value},aK E w cs vs->aK E.bare w cs vs:=by
 induction cs with
 | nil=>intro vs hr;simpa [aK] using hr
 | cons c cs ih =>
   intro vs hr
   simp only [aK] at hr ⊢
   obtain ⟨v,rest,e,h1,h2⟩:=hr
   exact ⟨v,rest,e,h c (by simp) _ _ _ h1,ih (fun x hx=>h x (by simp [hx])) h2⟩
theorem af.yV {cs:List AV} (h:∀ c∈cs,af c) {b o:Nat} (hr:dC E w b o cs):dC E.bare w b o cs :=
 fun j c hj=>let ⟨v,hv,yF⟩:=hr j c hj;⟨v,hv,h c (List.mem_of_getElem? hj) _ _ _ yF⟩
theorem af.agg {cs:List AV} (h:∀ c∈cs,af c):af (.agg cs):=fun E w v hr=>by
 simp only [aG] at hr ⊢;obtain ⟨xs,e,hr⟩:=hr;exact ⟨xs,e,af.xM h hr⟩
theorem af.tup {cs:List AV} (h:∀ c∈cs,af c):af (.tup cs):=fun E w v hr=>by
 simp only [aG] at hr ⊢;obtain ⟨xs,e,hr⟩:=hr;exact ⟨xs,e,af.xM h hr⟩
theorem af.fn {f:Fn} {a c:List AV} (ha:∀ x∈a,af x) (hc:∀ x∈c,af x):af (.fn f a c):=fun E w v hr=>by
 simp only [aG] at hr ⊢;obtain ⟨xs,ys,e,h1,h2⟩:=hr;exact ⟨xs,ys,e,af.xM ha h1,af.xM hc h2⟩
theorem af.sl {k:Nat} {es:List AV} (h:∀ c∈flat es,af c):af (.sl k es):=fun E w v hr=>by
 simp only [aG] at hr ⊢
 obtain ⟨a,cap,e,h1,h2,h3,h4⟩:=hr
 exact ⟨a,cap,e,h1,h2,h3,h4.imp id fun ⟨b,o,ea,hb,hr⟩=>⟨b,o,ea,hb,dw.2 (af.yV h (dw.1 hr))⟩⟩
theorem af.tsl {k:Nat} {es:List AV} (h:∀ c∈flat es,af c):af (.tsl k es):=fun E w v hr=>by
 simp only [aG] at hr ⊢
 obtain ⟨a,e,h2,h3,h4⟩:=hr
 exact ⟨a,e,h2,h3,h4.imp id fun ⟨b,o,ea,hb,hr⟩=>⟨b,o,ea,hb,dw.2 (af.yV h (dw.1 hr))⟩⟩
theorem af.ep {cs:List AV} {o:Nat} (h:∀ c∈cs,af c):af (.ep cs o):=fun E w v hr=>by
 simp only [aG] at hr ⊢
 obtain ⟨b,q,e,hb,hr⟩:=hr
 exact ⟨b,q,e,hb,dK.2 (af.yV h (dK.1 hr))⟩
def we (c:AV):Prop:=∀ E w E' w' v,aG E w c v->aG E' w' c v
theorem we.int (k:IntKind) (n:Int):we (.int k n):=fun _ _ _ _ _ h=>by simpa [aG] using h
def Env.n8 (E:Env) (σ : ae):Env:=⟨fun _=>none,fun b=>E.ok b∨∃ id bk k N, σ id=some bk/\E.μ id=some (b,k,N)⟩
def View (σ : ae) (c d:AV):Prop:=∀ G own E w v,Inv G own E w σ -> aG E w c v->aG (E.n8 σ) w d v
def ah (σ : ae) (cs ds:List AV):Prop:=cs.length=ds.length/\∀ (j:Nat) (c d:AV),cs[j]? = some c->ds[j]? = some d->View σ c d
theorem Step.n8 (E:Env) (σ : ae) (w:World):Step E.bare (E.n8 σ) w w:=⟨fun _ _ h=>by simp [Env.bare] at h,fun _ h => .inl h,fun _ _=>rfl⟩
theorem View.pure {c:AV} (h:af c):View σ c c:=fun _ _ E w v _ hr=>aG.keep (Step.n8 E σ w) c v (h E w v hr)
theorem ah.pure {cs:List AV} (h:∀ c∈cs,af c):ah σ cs cs :=
 ⟨rfl,fun j c d hc hd=>by rw [hc] at hd;simp only [Option.some.injEq] at hd;subst hd;exact View.pure (h c (List.mem_of_getElem? hc))⟩
theorem ah.nil:ah σ [] []:=⟨rfl,by simp⟩
theorem ah.cons {c d:AV} {cs ds:List AV} (h:View σ c d) (hl:ah σ cs ds):ah σ (c::cs) (d::ds) :=
 ⟨by simp [hl.1],fun j x y hx hy=>by
   cases j with
   | zero=>simp at hx hy;subst hx;subst hy;exact h
   | succ j=>exact hl.2 j x y (by simpa using hx) (by simpa using hy)⟩
theorem ah.xM {cs ds:List AV} (h:ah σ cs ds) (hi:Inv G own E w σ) {vs:List Value} (hr:aK E w cs vs):aK (E.n8 σ) w ds vs:=by
 obtain ⟨hl,hp⟩:=bz.1 hr
 refine bz.2 ⟨by rw [hl,h.1],fun j d hd => ?_⟩
 have hj:j<cs.length:=by rw [h.1];exact (List.getElem?_eq_some_iff.1 hd).1
 obtain ⟨v,hv,yF⟩:=hp j cs[j] (by simp [hj])
 exact ⟨v,hv,h.2 j _ d (by simp [hj]) hd G own E w v hi yF⟩
theorem ah.yV {cs ds:List AV} (h:ah σ cs ds) (hi:Inv G own E w σ) {b o:Nat} (hr:dC E w b o cs):dC (E.n8 σ) w b o ds:=by
 intro j d hd
 have hj:j<cs.length:=by rw [h.1];exact (List.getElem?_eq_some_iff.1 hd).1
 obtain ⟨v,hv,yF⟩:=hr j cs[j] (by simp [hj])
 exact ⟨v,hv,h.2 j _ d (by simp [hj]) hd G own E w v hi yF⟩
theorem View.agg {cs ds:List AV} (h:ah σ cs ds):View σ (.agg cs) (.agg ds):=fun G own E w v hi hr=>by
 simp only [aG] at hr ⊢;obtain ⟨xs,e,hr⟩:=hr;exact ⟨xs,e,h.xM hi hr⟩
theorem View.tup {cs ds:List AV} (h:ah σ cs ds):View σ (.tup cs) (.tup ds):=fun G own E w v hi hr=>by
 simp only [aG] at hr ⊢;obtain ⟨xs,e,hr⟩:=hr;exact ⟨xs,e,h.xM hi hr⟩
theorem View.nils (k:Nat):View σ .nils (.sl k []):=fun G own E w v hi hr=>by
 simp only [aG] at hr ⊢;exact ⟨none,0,hr,Nat.le_refl _,Nat.zero_le _,by simp, .inl trivial⟩
theorem View.Xw (k:Nat):View σ (.tsl k []) (.sl k []):=fun G own E w v hi hr=>by
 simp only [aG] at hr ⊢
 obtain ⟨a,e,_⟩:=hr
 exact ⟨a,0,e,Nat.le_refl _,Nat.zero_le _,by simp, .inl trivial⟩
theorem View.tsl {k:Nat} {es ds:List AV} (h:ah σ (flat es) (flat ds)) (hl:es.length=ds.length) (hk:∀ d∈ds,d.size=k):View σ (.tsl k es) (.sl k ds):=fun G own E w v hi hr=>by
 simp only [aG] at hr ⊢
 obtain ⟨a,e,h2,h3,h4⟩:=hr
 refine ⟨a,es.length,by rw [<- hl];exact e,by rw [<- hl];exact Nat.le_refl _,h2,hk, ?_⟩
 rcases h4 with h4 | ⟨b,o,ea,hb,hr⟩
 . left;subst h4;simpa using hl.symm
 . right;exact ⟨b,o,ea, .inl hb,dw.2 (h.yV hi (dw.1 hr))⟩
theorem View.osl {id:Id} {bk:cN} {k off len:Nat} {t:Bool} {ds:List AV} (hσ : σ id=some bk) (hk:bk.k=k) (hle:off+len<=bk.els.length)
   (h:ah σ (flat ((bk.els.drop off).take len)) (flat ds)) (hl:ds.length=len) (hkd:∀ d∈ds,d.size=k):View σ (.osl id k off len t) (.sl k ds):=fun G own E w v hi hr=>by
 obtain ⟨g,N,cur,ty,hB⟩:=hi.blk id bk hσ
 simp only [aG] at hr ⊢
 obtain ⟨g',N',cap,hm,e,h1,h2,h3,_⟩:=hr
 rw [hB.μ] at hm
 simp only [Option.some.injEq,Prod.mk.injEq] at hm
 obtain ⟨rfl,_,rfl⟩:=hm
 refine ⟨_,cap,by rw [hl];exact e,by rw [hl];exact h1,by omega,hkd, .inr ⟨g,off*k,rfl, .inr ⟨id,bk,bk.k,N,hσ,hB.μ⟩, ?_⟩⟩
 refine dw.2 (h.yV hi ?_)
 have:=lW (l:=off) (r:=off+len) hB.k hB.row (by omega) hle
 rw [Nat.zero_add,hk] at this
 have e2:(bk.els.take (off+len)).drop off=(bk.els.drop off).take len:=by rw [List.drop_take];congr 1;omega
 rwa [e2] at this
def VP (P:Program) (G:Nat->Option (List AV)) (f:FuncId) (args:List AV) (r:AV):Prop :=
 (∃ fn,P.funcs[f]? = some fn/\(fn.name == "runtime.NumGoroutine")=false/\fn.body.isSome=true) /\
 ∀ w vs ok,Inv G (fun k=>w.heap.size<=k) ⟨fun _=>none,ok⟩ w (fun _=>none)->aK ⟨fun _=>none,ok⟩ w args vs ->
   Calls P f vs.toArray w fun e w'=>∃ v ok',e = .returned v/\Adv (fun k=>w.heap.size<=k) ⟨fun _=>none,ok⟩ ⟨fun _=>none,ok'⟩ w w'/\(∀ b,ok' b->b<w'.heap.size)/\aG ⟨fun _=>none,ok'⟩ w' r v
theorem aw.Je {f:FuncId} {args:List AV} {r:AV} (h:VP P G f args r) (hp:∀ c∈args,af c) (p:Id):aw P G f args p [] { val:=r }:=by
 refine ⟨h.1,fun own E w σ vs _ hi hr hμ => ?_⟩
 have On:Inv G (fun k=>w.heap.size<=k) ⟨fun _=>none,E.ok⟩ w (fun _=>none):=⟨hi.okb,fun id bk h=>by simp at h,fun i j x y h=>absurd rfl h,hi.glob,fun k hk=>hk⟩
 refine (h.2 w vs E.ok On (af.xM hp hr)).mono fun e w' he => ?_
 obtain ⟨v,ok',rfl,had,eQ,hv⟩:=he
 have gu:Adv own E ⟨E.μ,ok'⟩ w w' :=
   ⟨⟨fun _ _ h=>h,had.step.ok,had.step.same⟩,had.os,had.tape,had.output,had.size,fun k hk _=>had.block k hk (by omega),fun b hb=>(had.Si b hb).imp id fun h=>hi.new b h⟩
 refine ⟨v,⟨E.μ,ok'⟩,rfl,gu, ?_, ?_,fun _ _=>rfl⟩
 . refine hi.keep gu rfl eQ fun id bk g N hs hm => ?_
   obtain ⟨g',N',cur,ty,hB⟩:=hi.blk id bk hs
   rw [hB.μ] at hm
   simp only [Option.some.injEq,Prod.mk.injEq] at hm
   obtain ⟨rfl,_,rfl⟩:=hm
   have hg:=eS hB.heap
   exact ⟨had.block _ hg (by omega),fun hf hb=>(had.Si _ hb).elim (hB.no hf) (fun h=>by omega)⟩
 . exact aG.keep (⟨fun _ _ h=>by simp at h,fun _ h=>h,fun _ _=>rfl⟩:Step ⟨fun _=>none,ok'⟩ ⟨E.μ,ok'⟩ w' w') r v hv
def fU (s:VS):n5->Option AV
 | .tmp t=>some (s.t.getD t (.tup []))
 | .cell x agg n=>(jq s.σ agg n (s.t.getD x (.tup []))).map (·.val)
def dU (rs:List n5) (s:VS):Option AV :=
 match rs.mapM (fU s) with
 | some [v]=>some v
 | some vs=>some (.tup vs)
 | none=>none
theorem EE {α β : Type} {f : α -> Sem β}:∀ (l:List α) (vs:List β),vs.length=l.length->(∀ (i:Nat) (a : α) (v : β),l[i]? = some a->vs[i]? = some v->(f a).run P w = .ok v w)->(l.mapM f).run P w = .ok vs w
 | [],vs,hl,_=>by
   have:vs=[]:=List.eq_nil_of_length_eq_zero hl
   subst this;rfl
 | a::l,[],hl,_=>by simp at hl
 | a::l,v::vs,hl,h=>by
   have h0:=h 0 a v rfl rfl
   have ih:=EE l vs (by simpa using hl) (fun i x y hx hy=>h (i+1) x y (by simpa using hx) (by simpa using hy))
   simp [List.mapM_cons,h0,ih]
theorem SZ {π : Id} {s:VS} {a:Act} (hm:iY G π own E w s a) {rv:ResultVar} {vr:n5} (hc:NQ P rv=some vr) {c:AV} (h:fU s vr=some c) :
   ∃ v,(match rv with | .tmp t=>(pure (a.tmps.getD t undef):Sem Value) | .cell x t=>do loadVar t (<- asAddr (a.tmps.getD x undef))).run P w = .ok v w/\aG E w c v:=by
 cases rv with
 | tmp t =>
   simp only [NQ,Option.some.injEq] at hc;subst hc
   simp only [fU,Option.some.injEq] at h;subst h
   exact ⟨_,rfl,hm.frame.get t⟩
 | cell x t =>
   simp only [NQ] at hc
   cases ha:kM P t with
   | none=>simp [ha] at hc
   | some g =>
   cases xK:P.info? t with
   | none=>simp [ha,xK] at hc
   | some i =>
     simp only [ha,xK] at hc
     split at hc
     . simp only [Option.some.injEq] at hc;subst hc
       simp only [fU,Option.map_eq_some_iff] at h
       obtain ⟨r,hr,rfl⟩:=h
       obtain ⟨⟨v,h1,h2⟩,_,ad,had⟩:=Bh hm.inv ha xK (hm.frame.get x) hr
       refine ⟨v, ?_,h2⟩
       simp only []
       rw [had] at h1 ⊢
       simpa [Instr.loadAt,Instr.sureAddr,asAddr] using h1
     . simp at hc
theorem w7 {π : Id} {s:VS} {a:Act} (hm:iY G π own E w s a) {fn:Func} {rs:List n5} (hc:fn.results.toList.mapM (NQ P)=some rs) {c:AV} (h:dU rs s=some c) :
   ∃ v,(results fn a.tmps).run P w = .ok v w/\aG E w c v:=by
 unfold dU at h
 cases hcs:rs.mapM (fU s) with
 | none=>simp [hcs] at h
 | some cs =>
   have hlen:cs.length=fn.results.toList.length:=by rw [fq hcs,fq hc]
   let F:ResultVar->Sem Value:=fun rv=>match rv with | .tmp t=>(pure (a.tmps.getD t undef):Sem Value) | .cell x t=>do loadVar t (<- asAddr (a.tmps.getD x undef))
   have hex:∀ j,j<cs.length->∃ v,(∀ rv,fn.results.toList[j]? = some rv->(F rv).run P w = .ok v w)/\∀ c,cs[j]? = some c->aG E w c v:=by
     intro j hj
     obtain ⟨vr,h1,h2⟩:=mapM_some_get hcs j cs[j] (by simp [hj])
     obtain ⟨rv,h3,h4⟩:=mapM_some_get hc j vr h1
     obtain ⟨v,h5,h6⟩:=SZ hm h4 h2
     refine ⟨v,fun rv' yF => ?_,fun c hc => ?_⟩
     . rw [h3] at yF;simp only [Option.some.injEq] at yF;subst yF;exact h5
     . simp only [hj,List.getElem?_eq_getElem,Option.some.injEq] at hc;subst hc;exact h6
   let val:Nat->Value:=fun j=>if hj:j<cs.length then Classical.choose (hex j hj) else undef
   have hval:∀ j (hj:j<cs.length),(∀ rv,fn.results.toList[j]? = some rv->(F rv).run P w = .ok (val j) w)/\∀ c,cs[j]? = some c->aG E w c (val j):=by
     intro j hj
     simp only [val,hj,dif_pos]
     exact Classical.choose_spec (hex j hj)
   let vs:List Value:=(List.range cs.length).map val
   have nw:vs.length=cs.length:=by simp [vs]
   have hrun:(fn.results.toList.mapM F).run P w = .ok vs w:=by
     refine EE _ vs (by rw [nw,hlen]) fun i rv v yF hv => ?_
     have hi:i<cs.length:=by have:=(List.getElem?_eq_some_iff.1 hv).1;omega
     have:v=val i:=by simp [vs,hi] at hv;exact hv.symm
     subst this
     exact (hval i hi).1 rv yF
   have LR:aK E w cs vs:=bz.2 ⟨nw,fun j c hj=>by
     have qu:=(List.getElem?_eq_some_iff.1 hj).1
     exact ⟨val j,by simp [vs,qu],(hval j qu).2 c hj⟩⟩
   have Ev:(results fn a.tmps).run P w=(pure (if h:vs.toArray.size=1 then vs.toArray[0] else .tuple vs.toArray):Sem Value).run P w:=by
     unfold results
     rw [Array.mapM_eq_mapM_toList]
     simp only [Sem.run_bind,Sem.run_map]
     exact congrArg (fun x:Result (List Value)=>(x.andThen fun b w'=>Result.ok b.toArray w').andThen fun b w'=>Sem.run P (pure (if h:b.size=1 then b[0] else Value.tuple b)) w') hrun
   rw [Ev]
   refine ⟨_,rfl, ?_⟩
   simp only [hcs] at h
   split at h
   . rename_i c0 heq
     simp only [Option.some.injEq] at heq h
     subst h
     have gW:vs.toArray.size=1:=by simp [nw,heq]
     rw [dif_pos gW]
     rw [heq] at LR
     simp only [aK] at LR
     obtain ⟨v,rest,hv,h1,rfl⟩:=LR
     simpa [hv] using h1
   . rename_i ub hne heq
     simp only [Option.some.injEq] at heq h
     subst h;subst heq
     have gW : ¬ vs.toArray.size=1:=by
       intro e
       simp [nw] at e
       obtain ⟨x,hx⟩:=List.length_eq_one_iff.1 e
       exact hne x (by rw [hx])
     rw [dif_neg gW]
     simp only [aG]
     exact ⟨_,rfl,by simpa using LR⟩
   . simp at *
theorem VP.Oo {f:FuncId} {fn:Func} {vf:bp} (hf:P.funcs[f]? = some fn) (hc:yD P fn=some vf) {args:List AV} {r:AV}
   (h:VW P G [] vf.body (fun e s'=>(e = .normal∨e = .ret)/\∃ r0,dU vf.results s'=some r0/\View s'.σ r0 r) ⟨args++List.replicate (vf.nt-args.length) (.tup []),fun _=>none,0⟩):VP P G f args r:=by
 unfold yD at hc
 split at hc
 . simp at hc
 . rename_i qz
   split at hc
   . rename_i c rs hb Av
     simp only [Option.map_eq_some_iff] at hc
     obtain ⟨vb,hvb,rfl⟩:=hc
     refine ⟨⟨fn,hf,by simpa using qz,by simp [hb]⟩,fun w vs ok hi hr => ?_⟩
     refine calls_of_wp hf hb ?_
     have hal:vs.length=args.length:=aK.len hr
     have hm:iY G [] (fun k=>w.heap.size<=k) ⟨fun _=>none,ok⟩ w ⟨args++List.replicate (fn.ntmps-args.length) (.tup []),fun _=>none,0⟩
         { tmps:=vs.toArray++Array.replicate (fn.ntmps-vs.toArray.size) undef,defers:=[] }:=by
       refine ⟨?_,hi,fun _ _ _=>rfl,rfl⟩
       show aK _ w _ _
       simp only [Array.toList_append,Array.toList_replicate,List.size_toArray,hal]
       refine aK.append hr (bz.2 ⟨by simp,fun j c hj => ?_⟩)
       have qu:j<fn.ntmps-args.length:=by have:=(List.getElem?_eq_some_iff.1 hj).1;simpa using this
       simp only [List.getElem?_replicate,qu,if_true,Option.some.injEq] at hj ⊢
       subst hj
       exact ⟨undef,rfl,by simp only [aG,undef];exact ⟨#[],rfl,by simp [aK]⟩⟩
     refine h c hvb _ _ w _ _ hm ?_
     intro e s' E' w' a' hq had mG
     obtain ⟨he,r0,hr0,bm⟩:=hq
     obtain ⟨v,kL,qe⟩:=w7 mG Av hr0
     have fin:∃ v,(results fn a'.tmps).run P w' = .ok v w'/\∃ v' ok',Ending.returned v = .returned v'/\Adv (fun k=>w.heap.size<=k) ⟨fun _=>none,ok⟩ ⟨fun _=>none,ok'⟩ w w'/\(∀ b,ok' b->b<w'.heap.size)/\aG ⟨fun _=>none,ok'⟩ w' r v':=by
       refine ⟨v,kL,v,(E'.n8 s'.σ).ok,rfl, ?_, ?_, ?_⟩
       . refine ⟨⟨fun _ _ h=>by simp at h,fun b hb => .inl (had.step.ok b hb),had.step.same⟩,had.os,had.tape,had.output,had.size,had.block, ?_⟩
         rintro b (hb | ⟨id,bk,k,N,hs,Xx⟩)
         . exact had.Si b hb
         . obtain ⟨g,N',cur,ty,hB⟩:=mG.inv.blk id bk hs
           rw [hB.μ] at Xx
           simp only [Option.some.injEq,Prod.mk.injEq] at Xx
           right;rw [<- Xx.1];exact hB.own
       . rintro b (hb | ⟨id,bk,k,N,hs,Xx⟩)
         . exact mG.inv.okb b hb
         . obtain ⟨g,N',cur,ty,hB⟩:=mG.inv.blk id bk hs
           rw [hB.μ] at Xx
           simp only [Option.some.injEq,Prod.mk.injEq] at Xx
           rw [<- Xx.1];exact eS hB.heap
       . exact bm G _ E' w' v mG.inv qe
     rcases he with rfl | rfl
     . exact ⟨mG.defers,fin⟩
     . exact ⟨mG.defers,fin⟩
   . simp at hc
end
end Go.VL
end

section
namespace Go.VL
section
variable {P:Program} {G:Nat->Option (List AV)} {π : Id} {Q:bP->VS->Prop} {s:VS}
def Fg:List AV->List AV->Prop
 | [],[]=>True
 | c::cs,d::ds=>(d = .top∨d=c)/\Fg cs ds
 | _,_=>False
theorem Fg.rep {E:Env} {w:World}:∀ {cs ds:List AV} {vs:List Value},Fg cs ds->aK E w cs vs->aK E w ds vs
 | [],[],_,_,h=>h
 | c::cs,d::ds,vs,hf,h=>by
   simp only [Fg] at hf
   simp only [aK] at h ⊢
   obtain ⟨v,rest,e,h1,h2⟩:=h
   refine ⟨v,rest,e, ?_,Fg.rep hf.2 h2⟩
   rcases hf.1 with rfl | rfl
   . simp [aG]
   . exact h1
 | [],_::_,_,h,_=>by simp [Fg] at h
 | _::_,[],_,h,_=>by simp [Fg] at h
theorem Wk.forget {t t':List AV} {σ σ':ae} {n n':Nat} (ht:Fg t t') (hs:∀ id, σ' id=none ∨ σ' id = σ id) (hn:n<=n'):Wk G π ⟨t, σ,n⟩ ⟨t', σ',n'⟩ :=
 fun own E w _ hm=>⟨E,jr.refl own π E w,ht.rep hm.frame,hm.inv.sub hs,hm.free.mono hn,hm.defers⟩
theorem Wk.slots {t t':List AV} {σ : ae} {n n':Nat} (ht:Fg t t') (hn:n<=n'):Wk G π ⟨t, σ,n⟩ ⟨t', σ,n'⟩:=Wk.forget ht (fun _ => .inr rfl) hn
def s9 (P:Program) (G:Nat->Option (List AV)) (π : Id) (x:bJ) (Q:bP->VS->Prop):Nat->VS->Prop
 | 0,_=>False
 | n+1,s=>VW P G π x (Then (s9 P G π x Q n) Q) s
theorem VW.rounds {x:bJ} (n:Nat) (h:s9 P G π x Q n s):VW P G π (.loop x) Q s:=by
 intro c hc own E w a R hm hR
 cases c<;>simp only [eW,Option.some.injEq,reduceCtorEq] at hc
 case loop cb =>
   cases h1:eW P cb with
   | none=>simp [h1] at hc
   | some vb =>
     simp only [h1,Option.map_some,Option.some.injEq,bJ.loop.injEq] at hc
     subst hc
     refine wp_loop_rounds n ?_
     have key:∀ n s E2 w2 a2,s9 P G π vb Q n s->jr own π E E2 w w2->iY G π own E2 w2 s a2->Code.rounds P cb R n a2 w2:=by
       intro n
       induction n with
       | zero=>intro s E2 w2 a2 h _ _;exact h.elim
       | succ n ih =>
         intro s E2 w2 a2 h ad hm
         refine h cb h1 own E2 w2 a2 _ hm ?_
         intro e s' E' w' a' hq had mG
         cases e with
         | normal=>exact ih s' E' w' a' hq (ad.trans had) mG
         | exit id=>exact hR (.exit id) s' E' w' a' hq (ad.trans had) mG
         | ret=>exact hR .ret s' E' w' a' hq (ad.trans had) mG
     exact key n s E w a h (jr.refl own π E w) hm
 case region=>exfalso;revert hc;unfold iX;(repeat' split)<;>simp
 all_goals (exfalso;revert hc;(repeat' split)<;>simp)
end
end Go.VL
end

section
namespace Go.VL
def eL.nD {α : Type}:eL α -> Bool
 | .call _ _=>true
 | _=>false
def Bw (G:Nat->Option (List AV)) (σ : ae) (p:Id) (d:Option Nat) (op:eL aI) (g:Option (Nat × Bool)) (t:List AV):Option (List AV × dH × ae) :=
 match dL t g with
 | none=>none
 | some false=>some (e9 t d (.tup []),{ val := .tup [] }, σ)
 | some true=>match bu σ p (op.map (aI.ev G t)) with
   | some r=>some (e9 t d r.val,r, σ.app r.up)
   | none=>none
section
variable (P:Program) (G:Nat->Option (List AV)) (π : Id)
def vs (base:Nat) (Q:bP->VS->Prop) (n:Nat) (os:List bc) (i:Nat) (t:List AV) (σ : ae):Prop :=
 ui P G π base (fun t σ => Q .normal ⟨t, σ,n⟩) os i t σ
def vd (base:Nat) (Q:bP->VS->Prop) (n:Nat) (ps:List (Nat × Nat)) (os:List bc) (i:Nat) (acc:List dH) (t:List AV) (σ : ae):Prop :=
 uj P G π base (fun rs t σ => aB rs ps/\Q .normal ⟨t, σ,n⟩) os i acc t σ
def abL (base:Nat) (Q:bP->VS->Prop) (n:Nat) (os:List bc) (i:Nat):Option (List AV × dH × ae)->Prop
 | some (t,_, σ)=>vs P G π base Q n os i t σ
 | none=>False
def abM (base:Nat) (Q:bP->VS->Prop) (n:Nat) (ps:List (Nat × Nat)) (os:List bc) (i:Nat) (acc:List dH):Option (List AV × dH × ae)->Prop
 | some (t,r, σ)=>vd P G π base Q n ps os i (r::acc) t σ
 | none=>False
def yW (base:Nat) (Q:bP->VS->Prop) (n:Nat) (d:Option Nat) (os:List bc) (i:Nat) (t:List AV) (σ : ae) (f:FuncId) (args:List AV):Prop :=
 ∃ S r,aw P G f args ((base+i) :: π) S r/\(∀ x∈S, σ x.1=some x.2)/\(∀ x∈S,x.1∈r.rd)/\vs P G π base Q n os (i+1) (e9 t d r.val) (σ.app r.up)
def CT (base:Nat) (Q:bP->VS->Prop) (n:Nat) (ps:List (Nat × Nat)) (d:Option Nat) (os:List bc) (i:Nat) (acc:List dH) (t:List AV) (σ : ae) (f:FuncId) (args:List AV):Prop :=
 ∃ S r,aw P G f args ((base+i) :: π) S r/\(∀ x∈S, σ x.1=some x.2)/\(∀ x∈S,x.1∈r.rd)/\vd P G π base Q n ps os (i+1) (r::acc) (e9 t d r.val) (σ.app r.up)
def Jf (base:Nat) (Q:bP->VS->Prop) (n:Nat) (d:Option Nat) (os:List bc) (i:Nat) (t:List AV) (σ : ae):Option Bool->AV->List AV->Prop
 | some true, .fn (.func f) first cap,l=>yW P G π base Q n d os i t σ f (first++l++cap)
 | some false,_,_=>vs P G π base Q n os (i+1) (e9 t d (.tup [])) σ
 | _,_,_=>False
def Jg (base:Nat) (Q:bP->VS->Prop) (n:Nat) (ps:List (Nat × Nat)) (d:Option Nat) (os:List bc) (i:Nat) (acc:List dH) (t:List AV) (σ : ae):Option Bool->AV->List AV->Prop
 | some true, .fn (.func f) first cap,l=>CT P G π base Q n ps d os i acc t σ f (first++l++cap)
 | some false,_,_=>vd P G π base Q n ps os (i+1) ({ val := .tup [] }::acc) (e9 t d (.tup [])) σ
 | _,_,_=>False
variable {P} {G} {π}
variable {base:Nat} {Q:bP->VS->Prop} {n:Nat} {ps:List (Nat × Nat)} {d:Option Nat} {g:Option (Nat × Bool)} {os:List bc} {i:Nat} {acc:List dH} {t:List AV} {σ : ae}
theorem Oq:vs P G π base Q n [] i t σ = Q .normal ⟨t, σ,n⟩:=(rfl)
theorem Ot:vd P G π base Q n ps [] i acc t σ = (aB acc.reverse ps/\Q .normal ⟨t, σ,n⟩):=(rfl)
theorem n9 {σ : ae} {p:Id} {op:eL AV} {K:dH->Prop} (h:op.nD=false):qA P G σ p op K=(match bu σ p op with | some r=>K r | none=>False):=by
 cases op<;>first | rfl | simp [eL.nD] at h
theorem yX {op:eL aI} {f:aI->AV}:(op.map f).nD=op.nD:=by cases op<;>rfl
theorem abN {op:eL aI} (h:op.nD=false):vs P G π base Q n (⟨d,op,g⟩::os) i t σ = abL P G π base Q n os (i+1) (Bw G σ ((base+i) :: π) d op g t):=by
 unfold vs
 simp only [ui,Bw]
 cases hw:dL t g with
 | none=>rfl
 | some b =>
   cases b with
   | false=>rfl
   | true =>
     simp only []
     rw [n9 (by rw [yX];exact h)]
     cases bu σ ((base+i) :: π) (op.map (aI.ev G t))<;>rfl
theorem abO {op:eL aI} (h:op.nD=false):vd P G π base Q n ps (⟨d,op,g⟩::os) i acc t σ = abM P G π base Q n ps os (i+1) acc (Bw G σ ((base+i) :: π) d op g t):=by
 unfold vd
 simp only [uj,Bw]
 cases hw:dL t g with
 | none=>rfl
 | some b =>
   cases b with
   | false=>rfl
   | true =>
     simp only []
     rw [n9 (by rw [yX];exact h)]
     cases bu σ ((base+i) :: π) (op.map (aI.ev G t))<;>rfl
theorem S3 {f:aI} {l:List aI}:vs P G π base Q n (⟨d, .call f l,g⟩::os) i t σ = Jf P G π base Q n d os i t σ (dL t g) (f.ev G t) (l.map (aI.ev G t)):=by
 unfold vs Jf
 simp only [ui]
 cases hw:dL t g with
 | none=>rfl
 | some b =>
   cases b with
   | false=>rfl
   | true =>
     simp only [eL.map,qA]
     cases hf:f.ev G t<;>try rfl
     rename_i fn a c
     cases fn<;>rfl
theorem S4 {f:aI} {l:List aI}:vd P G π base Q n ps (⟨d, .call f l,g⟩::os) i acc t σ = Jg P G π base Q n ps d os i acc t σ (dL t g) (f.ev G t) (l.map (aI.ev G t)):=by
 unfold vd Jg
 simp only [uj]
 cases hw:dL t g with
 | none=>rfl
 | some b =>
   cases b with
   | false=>rfl
   | true =>
     simp only [eL.map,qA]
     cases hf:f.ev G t<;>try rfl
     rename_i fn a c
     cases fn<;>rfl
theorem yY {f:FuncId} {first cap l:List AV}:Jf P G π base Q n d os i t σ (some true) (.fn (.func f) first cap) l=yW P G π base Q n d os i t σ f (first++l++cap):=(rfl)
theorem yZ {f:FuncId} {first cap l:List AV}:Jg P G π base Q n ps d os i acc t σ (some true) (.fn (.func f) first cap) l=CT P G π base Q n ps d os i acc t σ f (first++l++cap):=(rfl)
theorem aq {f:FuncId} {args:List AV} {r:AV} (h:VP P G f args r) (hp:∀ c∈args,af c) (k:vs P G π base Q n os (i+1) (e9 t d r) σ):yW P G π base Q n d os i t σ f args :=
 ⟨[],{ val:=r },aw.Je h hp _,by simp,by simp,k⟩
theorem aL {f:FuncId} {args:List AV} {r:AV} (h:VP P G f args r) (hp:∀ c∈args,af c) (k:vd P G π base Q n ps os (i+1) ({ val:=r }::acc) (e9 t d r) σ):CT P G π base Q n ps d os i acc t σ f args :=
 ⟨[],{ val:=r },aw.Je h hp _,by simp,by simp,k⟩
def EF (P:Program) (G:Nat->Option (List AV)) (π : Id) (x y:bJ) (Q:bP->VS->Prop) (s:VS):AV->Prop
 | .bool b=>if b then qF P G π x Q s else qF P G π y Q s
 | .anyb=>qF P G π x Q s/\qF P G π y Q s
 | _=>False
theorem y3 {x y:bJ} {s:VS}:EF P G π x y Q s (.bool true)=qF P G π x Q s:=(rfl)
theorem w9 {x y:bJ} {s:VS}:EF P G π x y Q s (.bool false)=qF P G π y Q s:=(rfl)
theorem Bx {x y:bJ} {s:VS}:EF P G π x y Q s .anyb=(qF P G π x Q s/\qF P G π y Q s):=(rfl)
theorem EG {s:VS}:qF P G π .skip Q s=Q .normal s:=(rfl)
theorem y4 {os:List bc} {n:Nat}:qF P G π (.reg none os) Q ⟨t, σ,n⟩=vs P G π n Q (n+os.length) os 0 t σ := (rfl)
theorem y5 {os:List bc} {n:Nat}:qF P G π (.reg (some ps) os) Q ⟨t, σ,n⟩=vd P G π n Q (n+os.length) ps os 0 [] t σ := (rfl)
theorem Jh {x y:bJ} {s:VS}:qF P G π (.seq x y) Q s=qF P G π x (Then (qF P G π y Q) Q) s:=(rfl)
theorem EH {c:aI} {x y:bJ} {n:Nat}:qF P G π (.cond c x y) Q ⟨t, σ,n⟩=EF P G π x y Q ⟨t, σ,n⟩ (c.ev G t):=by
 simp only [qF,EF]<;>cases c.ev G t<;>rfl
theorem Bz {id:Nat} {x:bJ} {s:VS}:qF P G π (.block id x) Q s=qF P G π x (LQ id Q) s:=(rfl)
theorem bf {x:bJ} {s:VS}:qF P G π (.loop x) Q s=VW P G π (.loop x) Q s:=(rfl)
theorem EI {id:Nat} {s:VS}:qF P G π (.exit id) Q s=Q (.exit id) s:=(rfl)
theorem Ji {s:VS}:qF P G π .ret Q s=Q .ret s:=(rfl)
def LS (rs:List n5) (r:AV) (e:bP) (s:VS):Prop:=(e = .normal∨e = .ret)/\∃ r0,dU rs s=some r0/\View s.σ r0 r
theorem ao {rs:List n5} {r:AV} {s:VS}:LS rs r .ret s=∃ r0,dU rs s=some r0/\View s.σ r0 r:=by simp [LS]
theorem xd {rs:List n5} {r:AV} {s:VS}:LS rs r .normal s=∃ r0,dU rs s=some r0/\View s.σ r0 r:=by simp [LS]
def EJ {α : Type} (G:Nat->Option (List AV)) (π : Id) (st : α -> VS) (Pr : α -> Prop) (m : α -> Nat) (a : α) (Q:bP->VS->Prop):bP->VS->Prop
 | .normal,s'=>∃ a',Pr a'/\m a'<m a/\Wk G π s' (st a')
 | .exit i,s'=>Q (.exit i) s'
 | .ret,s'=>Q .ret s'
theorem uu {α : Type} {st : α -> VS} {Pr : α -> Prop} {m : α -> Nat} {a : α} {s':VS}:EJ G π st Pr m a Q .normal s'=∃ a',Pr a'/\m a'<m a/\Wk G π s' (st a'):=(rfl)
theorem y6 {α : Type} {st : α -> VS} {Pr : α -> Prop} {m : α -> Nat} {a : α} {s':VS} {j:Nat}:EJ G π st Pr m a Q (.exit j) s'=Q (.exit j) s':=(rfl)
theorem BA {α : Type} {st : α -> VS} {Pr : α -> Prop} {m : α -> Nat} {a : α} {s':VS}:EJ G π st Pr m a Q .ret s'=Q .ret s':=(rfl)
theorem VW.dV {α : Type} {x:bJ} {s:VS} (st : α -> VS) (Pr : α -> Prop) (m : α -> Nat) (x0 : α) (hw:Wk G π s (st x0)) (h0:Pr x0)
   (h:∀ a,Pr a->qF P G π x (EJ G π st Pr m a Q) (st a)):VW P G π (.loop x) Q s:=by
 refine VW.wk hw ?_
 intro c hc own E w a R hm hR
 cases c<;>simp only [eW,Option.some.injEq,reduceCtorEq] at hc
 case loop cb =>
   cases h1:eW P cb with
   | none=>simp [h1] at hc
   | some vb =>
     simp only [h1,Option.map_some,Option.some.injEq,bJ.loop.injEq] at hc
     subst hc
     refine qD (α := α) (fun g a' w'=>Pr g/\∃ E',jr own π E E' w w'/\iY G π own E' w' (st g) a') m (x:=x0) ⟨h0,E,jr.refl own π E w,hm⟩ ?_
     rintro g a2 w2 ⟨hI2,E2,LP,uf⟩
     refine VW.of (h g hI2) cb h1 own E2 w2 a2 _ uf ?_
     intro e s' E' w' a' hq had mG
     cases e with
     | normal =>
       obtain ⟨g',hI3,hlt,hw3⟩:=hq
       obtain ⟨E3,ad3,hm3⟩:=hw3 own E' w' a' mG
       exact ⟨g',⟨hI3,E3,(LP.trans had).trans ad3,hm3⟩,hlt⟩
     | exit id=>exact hR (.exit id) s' E' w' a' hq (LP.trans had) mG
     | ret=>exact hR .ret s' E' w' a' hq (LP.trans had) mG
 case region=>exfalso;revert hc;unfold iX;(repeat' split)<;>simp
 all_goals (exfalso;revert hc;(repeat' split)<;>simp)
theorem VP.of {f:FuncId} {fn:Func} {vf:bp} (hf:P.funcs[f]? = some fn) (hc:yD P fn=some vf) {args:List AV} {r:AV}
   (h:qF P G [] vf.body (LS vf.results r) ⟨args++List.replicate (vf.nt-args.length) (.tup []),fun _=>none,0⟩):VP P G f args r :=
 VP.Oo hf hc (VW.of h)
end
end Go.VL
end

section
namespace Go.VL
def ae.of (S:List (Id × cN)):ae:=fun i=>S.lookup i
theorem jH {S:List (Id × cN)} {i:Id} {b:cN}:S.lookup i=some b->(i,b)∈S:=by
 induction S with
 | nil=>intro h;simp at h
 | cons x S ih =>
   intro h
   obtain ⟨j,c⟩:=x
   simp only [List.lookup_cons] at h
   split at h
   . rename_i he
     have:i=j:=by simpa using he
     subst this
     simp only [Option.some.injEq] at h;subst h;simp
   . exact List.mem_cons_of_mem _ (ih h)
theorem ae.y7 {S:List (Id × cN)} {σ : ae} (h:∀ x∈S, σ x.1=some x.2) (i:Id):ae.of S i=none∨ae.of S i = σ i:=by
 cases hl:S.lookup i with
 | none=>exact .inl hl
 | some b=>right;show S.lookup i = σ i;rw [hl];exact (h _ (jH hl)).symm
theorem ae.Xy (up:List (Id × Option cN)) (σ σ':ae) (i:Id) (h:(∃ x∈up,x.1=i) ∨ σ i = σ' i) : σ.app up i = σ'.app up i:=by
 induction up generalizing σ σ' with
 | nil =>
   rcases h with ⟨x,hx,_⟩ | h
   . simp at hx
   . exact h
 | cons x up ih =>
   obtain ⟨j,b⟩:=x
   simp only [ae.app]
   apply ih
   by_cases hj:i=j
   . right;subst hj;simp [ae.put]
   . rcases h with ⟨y,hy,he⟩ | h
     . simp only [List.mem_cons] at hy
       rcases hy with rfl | hy
       . exact absurd he.symm hj
       . exact .inl ⟨y,hy,he⟩
     . right;simp [ae.put,hj,h]
theorem ae.CU (up:List (Id × Option cN)) (σ : ae) (i:Id) (h:∀ x∈up,x.1≠i) : σ.app up i = σ i:=by
 induction up generalizing σ with
 | nil=>rfl
 | cons x up ih =>
   obtain ⟨j,b⟩:=x
   simp only [ae.app]
   rw [ih _ fun y hy=>h y (List.mem_cons_of_mem _ hy),ae.b8]
   exact fun e=>h (j,b) (by simp) e.symm
section
variable {P:Program} {G:Nat->Option (List AV)}
def Fin (G:Nat->Option (List AV)) (p:Id) (S:List (Id × cN)) (σ':ae) (r0:AV) (r:dH):Prop :=
 ∀ own E w v,Inv G own E w σ'->aG E w r0 v->E.μ p=none->∃ E',jr own p E E' w w/\Inv G own E' w ((ae.of S).app r.up)/\aG E' w r.val v
def LU (G:Nat->Option (List AV)) (p:Id) (S:List (Id × cN)) (rs:List n5) (r:dH) (e:bP) (s:VS):Prop :=
 (e = .normal∨e = .ret)/\∃ r0,dU rs s=some r0/\Fin G p S s.σ r0 r
theorem aw.U5 {f:FuncId} {fn:Func} {vf:bp} (hf:P.funcs[f]? = some fn) (hc:yD P fn=some vf) {args:List AV} {p:Id} {S:List (Id × cN)} {r:dH}
   (h:VW P G p vf.body (LU G p S vf.results r) ⟨args++List.replicate (vf.nt-args.length) (.tup []),ae.of S,0⟩):aw P G f args p S r:=by
 unfold yD at hc
 split at hc
 . simp at hc
 . rename_i qz
   split at hc
   . rename_i c rs hb Av
     simp only [Option.map_eq_some_iff] at hc
     obtain ⟨vb,hvb,rfl⟩:=hc
     refine ⟨⟨fn,hf,by simpa using qz,by simp [hb]⟩,fun own E w σ vs hS hi hr hμ => ?_⟩
     refine calls_of_wp hf hb ?_
     have hal:vs.length=args.length:=aK.len hr
     let AO:Nat->Prop:=fun g=>(∃ x∈S,∃ y,E.μ x.1=some y/\y.1=g)∨w.heap.size<=g
     have yK:∀ i,ae.of S i=none∨ae.of S i = σ i:=ae.y7 hS
     have Xz:∀ g,AO g->own g:=by
       rintro g (⟨x,hx,y,hy,rfl⟩ | hg)
       . obtain ⟨g,N,cur,ty,hB⟩:=hi.blk _ _ (hS x hx)
         have:=hB.μ.symm.trans hy
         simp only [Option.some.injEq] at this
         subst this
         exact hB.own
       . exact hi.new g hg
     have On:Inv G AO E w (ae.of S):=by
       refine ⟨hi.okb,fun id bk hs => ?_,(hi.sub yK).inj,hi.glob,fun k hk => .inr hk⟩
       have hm:=jH hs
       obtain ⟨g,N,cur,ty,hB⟩:=hi.blk _ _ (hS _ hm)
       exact ⟨g,N,cur,ty,hB.μ,hB.heap,hB.size,hB.len,hB.most, .inl ⟨_,hm,_,hB.μ,rfl⟩,hB.ok,hB.no,hB.k,hB.row⟩
     have hm:iY G p AO E w ⟨args++List.replicate (fn.ntmps-args.length) (.tup []),ae.of S,0⟩
         { tmps:=vs.toArray++Array.replicate (fn.ntmps-vs.toArray.size) undef,defers:=[] }:=by
       refine ⟨?_,On,fun j hj _=>hμ j hj,rfl⟩
       show aK _ w _ _
       simp only [Array.toList_append,Array.toList_replicate,List.size_toArray,hal]
       refine aK.append hr (bz.2 ⟨by simp,fun j c hj => ?_⟩)
       have qu:j<fn.ntmps-args.length:=by have:=(List.getElem?_eq_some_iff.1 hj).1;simpa using this
       simp only [List.getElem?_replicate,qu,if_true,Option.some.injEq] at hj ⊢
       subst hj
       exact ⟨undef,rfl,by simp only [aG,undef];exact ⟨#[],rfl,by simp [aK]⟩⟩
     refine h c hvb AO E w _ _ hm ?_
     intro e s' E' w' a' hq had mG
     obtain ⟨he,r0,hr0,Ou⟩:=hq
     obtain ⟨v,kL,qe⟩:=w7 mG Av hr0
     obtain ⟨E2,Xo,Lz,hv3⟩:=Ou AO E' w' v mG.inv qe mG.free.self
     have gu:jr AO p E E2 w w':=had.trans Xo
     have abP:Adv own E E2 w w' :=
       ⟨gu.step,gu.os,gu.tape,gu.output,gu.size,fun k hk ho=>gu.block k hk fun h=>ho (Xz k h),fun b hb=>(gu.Si b hb).imp id (Xz b)⟩
     -- a block of the caller that the function did not have
     have key:∀ i bk, σ i=some bk->ae.of S i=none->∀ g N cur ty,pY E own w i bk g N cur ty -> ¬ AO g:=by
       intro i bk hs hn g N cur ty hB
       rintro (⟨x,hx,y,hy,he⟩ | hg)
       . refine hi.inj x.1 i y (g,bk.k,N) (by simp [hS x hx]) (by simp [hs]) ?_ hy hB.μ he
         intro e
         have:=hS x hx
         have h1:(ae.of S) x.1≠none:=by
           show S.lookup x.1≠none
           intro hl
           rw [List.lookup_eq_none_iff] at hl
           have:=hl x hx
           simp at this
         rw [e] at h1
         exact h1 hn
       . have:=eS hB.heap;omega
     have fin:∃ v',Ending.returned v = .returned v'/\iJ G own E w σ p r v' E2 w':=by
       refine ⟨v,rfl,abP, ?_,hv3,gu.ids⟩
       -- the invariant of the caller's store
       have wh:∀ i,(σ.app r.up i=(ae.of S).app r.up i)∨(σ.app r.up i = σ i/\(ae.of S i=none)):=by
         intro i
         by_cases h:(∃ x∈r.up,x.1=i) ∨ σ i=ae.of S i
         . exact .inl (ae.Xy r.up σ (ae.of S) i h)
         . right
           have h1:∀ x∈r.up,x.1≠i:=fun x hx e=>h (.inl ⟨x,hx,e⟩)
           refine ⟨ae.CU r.up σ i h1, ?_⟩
           rcases yK i with h2 | h2
           . exact h2
           . exact absurd (.inr h2.symm) h
       have hold:∀ i bk, σ i=some bk->ae.of S i=none->∃ g N cur ty,pY E own w i bk g N cur ty/\pY E2 own w' i bk g N cur ty /\ ¬ AO g:=by
         intro i bk hs hn
         obtain ⟨g,N,cur,ty,hB⟩:=hi.blk i bk hs
         have hno:=key i bk hs hn g N cur ty hB
         refine ⟨g,N,cur,ty,hB,hB.keep gu.step (gu.block g (eS hB.heap) hno) (fun hf eQ => ?_),hno⟩
         exact (gu.Si g eQ).elim (hB.no hf) hno
       refine ⟨Lz.okb,fun i bk hs => ?_,fun i j x y kN hj' hne hx hy => ?_,Lz.glob,fun k hk=>hi.new k (Nat.le_trans gu.size hk)⟩
       . rcases wh i with h1 | ⟨h1,h2⟩
         . rw [h1] at hs
           obtain ⟨g,N,cur,ty,hB⟩:=Lz.blk i bk hs
           exact ⟨g,N,cur,ty,hB.μ,hB.heap,hB.size,hB.len,hB.most,Xz g hB.own,hB.ok,hB.no,hB.k,hB.row⟩
         . rw [h1] at hs
           obtain ⟨g,N,cur,ty,_,hB,_⟩:=hold i bk hs h2
           exact ⟨g,N,cur,ty,hB⟩
       . have new:∀ i x, σ.app r.up i≠none -> σ.app r.up i=(ae.of S).app r.up i->E2.μ i=some x->AO x.1:=by
           intro i x hn he hx
           rw [he] at hn
           cases hb:(ae.of S).app r.up i with
           | none=>exact absurd hb hn
           | some bk =>
             obtain ⟨g,N,cur,ty,hB⟩:=Lz.blk i bk hb
             have:=hB.μ.symm.trans hx
             simp only [Option.some.injEq] at this
             subst this
             exact hB.own
         have old:∀ i x, σ.app r.up i≠none -> σ.app r.up i = σ i->ae.of S i=none->E2.μ i=some x -> ¬ AO x.1:=by
           intro i x hn he hs hx
           rw [he] at hn
           cases hb : σ i with
           | none=>exact absurd hb hn
           | some bk =>
             obtain ⟨g,N,cur,ty,_,hB,hno⟩:=hold i bk hb hs
             have:=hB.μ.symm.trans hx
             simp only [Option.some.injEq] at this
             subst this
             exact hno
         rcases wh i with h1 | ⟨h1,h2⟩<;>rcases wh j with h3 | ⟨h3,h4⟩
         . exact Lz.inj i j x y (h1▸kN) (h3▸hj') hne hx hy
         . intro e;exact old j y hj' h3 h4 hy (e▸new i x kN h1 hx)
         . intro e;exact old i x kN h1 h2 hx (e▸new j y hj' h3 hy)
         . have lift:∀ i x, σ.app r.up i≠none -> σ.app r.up i = σ i->ae.of S i=none->E2.μ i=some x->E.μ i=some x:=by
             intro i x hn he hs hx
             rw [he] at hn
             cases hb : σ i with
             | none=>exact absurd hb hn
             | some bk =>
               obtain ⟨g,N,cur,ty,hB,wX,hno⟩:=hold i bk hb hs
               rw [hB.μ, <- wX.μ,hx]
           exact hi.inj i j x y (h1▸kN) (h3▸hj') hne (lift i x kN h1 h2 hx) (lift j y hj' h3 h4 hy)
     have abQ:∃ v0,(results fn a'.tmps).run P w' = .ok v0 w'/\∃ v' E',Ending.returned v0 = .returned v'/\iJ G own E w σ p r v' E' w':=by
       obtain ⟨v',h1,h2⟩:=fin
       exact ⟨v,kL,v',E2,h1,h2⟩
     rcases he with rfl | rfl
     . exact ⟨mG.defers,abQ⟩
     . exact ⟨mG.defers,abQ⟩
   . simp at hc
theorem Fin.same {p:Id} {S:List (Id × cN)} {σ':ae} {r0:AV} {r:dH} (hv:r.val=r0) (hs:∀ i,(ae.of S).app r.up i=none∨(ae.of S).app r.up i = σ' i):Fin G p S σ' r0 r :=
 fun own E w _ hi hr _=>⟨E,jr.refl own p E w,hi.sub hs,hv▸hr⟩
end
end Go.VL
end

section
namespace Go.VL
open Go.RowKit
theorem aw.Ov {P:Program} {G:Nat->Option (List AV)} {f:FuncId} {fn:Func} (hf:P.funcs[f]? = some fn) (qz:(fn.name == "runtime.NumGoroutine")=false) (hb:fn.body.isSome=true) {args:List AV} {p:Id} {S:List (Id × cN)} {val:AV} {rd:List Id}
   (h:∀ own E w σ vs,(∀ x∈S, σ x.1=some x.2)->Inv G own E w σ -> aK E w args vs->Calls P f vs.toArray w fun e w'=>∃ v,e = .returned v/\Below w.heap.size w w'/\I8 val v) :
   aw P G f args p S { val,rd }:=by
 refine ⟨⟨fn,hf,qz,hb⟩,fun own E w σ vs hS hi hr _=>(h own E w σ vs hS hi hr).mono fun e w' he => ?_⟩
 obtain ⟨v,rfl,hB,hv⟩:=he
 have gu:Adv own E E w w':=⟨⟨fun _ _ h=>h,fun _ h=>h,fun b hb=>hB.block b (hi.okb b hb)⟩,hB.os,hB.tape,hB.output,hB.size,fun k hk _=>hB.block k hk,fun _ h => .inl h⟩
 refine ⟨v,E,rfl,gu, ?_,hv E w',fun _ _=>rfl⟩
 refine hi.keep gu rfl (fun b hb=>Nat.lt_of_lt_of_le (hi.okb b hb) hB.size) fun id bk g N hs hm => ?_
 obtain ⟨g',N',cur,ty,wX⟩:=hi.blk id bk hs
 rw [wX.μ] at hm
 simp only [Option.some.injEq,Prod.mk.injEq] at hm
 obtain ⟨rfl,_,rfl⟩:=hm
 exact ⟨hB.block _ (eS wX.heap),wX.no⟩
theorem Ow {G:Nat->Option (List AV)} {own:Nat->Prop} {E:Env} {w:World} {σ : ae} (hi:Inv G own E w σ) {x:AV} {v:Value} (hx:aG E w x v) {k:IntKind} {zs:List Int} {rd:List Id} (h:er σ 1 x=some (zs.map (AV.int k),rd)) :
   ∃ a cap,v = .slice a zs.length cap/\zs.length<=cap/\(zs=[]∨∃ b o,a=some ⟨b,o,none⟩/\b<w.heap.size/\∀ j,j<zs.length->w.cell? ⟨b,o+j,none⟩=some (.int k (zs[j]?.getD 0))):=by
 obtain ⟨_,a,cap,rfl,hle,hr⟩:=rq hi hx h
 refine ⟨a,cap,by simp,by simpa using hle, ?_⟩
 rcases hr with hr | ⟨b,o,rfl,hr⟩
 . left;simpa using hr
 . cases zs with
   | nil=>exact .inl rfl
   | cons z zs =>
     right
     have yz:flat ((z::zs).map (AV.int k))=(z::zs).map (AV.int k):=by
       generalize z::zs=l
       induction l with
       | nil=>rfl
       | cons y l ih=>simp only [List.map_cons,flat,List.flatMap_cons,AV.cells] at ih ⊢;rw [ih];rfl
     rw [yz] at hr
     have hc:∀ j,j<(z::zs).length->w.cell? ⟨b,o+j,none⟩=some (.int k ((z::zs)[j]?.getD 0)):=by
       intro j hj
       obtain ⟨v,h1,h2⟩:=hr j (.int k (z::zs)[j]) (by rw [List.getElem?_map,List.getElem?_eq_getElem hj];rfl)
       simp only [aG] at h2
       subst h2
       rw [h1,List.getElem?_eq_getElem hj];rfl
     refine ⟨b,o,rfl, ?_,hc⟩
     have:=hc 0 (by simp)
     cases hh:w.heap[b]? with
     | none=>simp [World.cell?,hh] at this
     | some ob=>exact (Array.getElem?_eq_some_iff.1 hh).1
end Go.VL
end

section
namespace Go.VL
def cN.fz (b:cN):cN:={ b with fr:=true }
def CV (S:List (Id × cN)):List (Id × Option cN):=S.map fun x=>(x.1,some x.2.fz)
open Classical in
theorem Jj {σ : ae} (i:Id):∀ (S:List (Id × cN)) (σ0:ae),(∀ x∈S, σ x.1=some x.2) -> σ0.app (CV S) i=if ∃ x∈S,x.1=i then (σ i).map cN.fz else σ0 i
 | [], σ0,_=>by simp [CV,ae.app]
 | x :: S, σ0,h=>by
   show ae.app (σ0.put x.1 (some x.2.fz)) (CV S) i=_
   rw [Jj i S _ fun y hy=>h y (List.mem_cons_of_mem _ hy)]
   by_cases h1:∃ y∈S,y.1=i
   . rw [if_pos h1,if_pos]
     obtain ⟨y,hy,e⟩:=h1
     exact ⟨y,List.mem_cons_of_mem _ hy,e⟩
   . rw [if_neg h1]
     by_cases h2:i=x.1
     . subst h2
       rw [if_pos ⟨x,by simp,rfl⟩,h x (by simp),ae.dG];rfl
     . rw [if_neg,ae.b8 _ _ _ h2]
       rintro ⟨y,hy,e⟩
       rcases List.mem_cons.1 hy with rfl | hy
       . exact h2 e.symm
       . exact h1 ⟨y,hy,e⟩
theorem LV {S:List (Id × cN)} {σ : ae} (hS:∀ x∈S, σ x.1=some x.2) {x:Id × cN} (hx:x∈S):ae.of S x.1=some x.2:=by
 cases hl:S.lookup x.1 with
 | none =>
   rw [List.lookup_eq_none_iff] at hl
   have:=hl x hx
   simp at this
 | some b =>
   have:=hS _ (jH hl)
   rw [hS x hx] at this
   show S.lookup x.1=_
   rw [hl];exact this.symm
section
variable {P:Program} {G:Nat->Option (List AV)}
theorem Inv.n8 {own:Nat->Prop} {E:Env} {w:World} {σ : ae} {S:List (Id × cN)} (hi:Inv G own E w σ) (hS:∀ x∈S, σ x.1=some x.2) :
   Inv G (fun k=>w.heap.size<=k) (E.n8 (ae.of S)) w (fun _=>none) where
 okb := by
   rintro b (hb | ⟨id,bk,k,N,hs,hm⟩)
   . exact hi.okb b hb
   . obtain ⟨g,N',cur,ty,hB⟩:=hi.blk id bk (hS _ (jH hs))
     rw [hB.μ] at hm
     simp only [Option.some.injEq,Prod.mk.injEq] at hm
     rw [<- hm.1];exact eS hB.heap
 blk:=fun id bk h=>by simp at h
 inj:=fun i j x y h=>absurd rfl h
 glob:=fun g cs hg=>by
   obtain ⟨h1,h2⟩:=hi.glob g cs hg
   exact ⟨.inl h1,aZ.keep (⟨fun _ _ h=>h,fun _ h => .inl h,fun _ _=>rfl⟩:Step E.bare (E.n8 (ae.of S)).bare w w) rfl cs 0 h2⟩
 new:=fun k hk=>hk
theorem aw.CW {f:FuncId} {args iL:List AV} {r:AV} {p:Id} {S:List (Id × cN)} (h:VP P G f iL r) (hv:ah (ae.of S) args iL) :
   aw P G f args p S { val:=r,rd:=S.map (·.1),up:=CV S }:=by
 refine ⟨h.1,fun own E w σ vs hS hi hr hμ => ?_⟩
 have yG:=hv.xM (hi.sub (ae.y7 hS)) hr
 refine (h.2 w vs _ (hi.n8 hS) yG).mono fun e w' he => ?_
 obtain ⟨v,ok',rfl,had,eQ,hv'⟩:=he
 have gu:Adv own E ⟨E.μ,ok'⟩ w w':=by
   refine ⟨⟨fun _ _ h=>h,fun b hb=>had.step.ok b (.inl hb),fun b hb=>had.step.same b (.inl hb)⟩,had.os,had.tape,had.output,had.size,fun k hk _=>had.block k hk (by omega),fun b hb => ?_⟩
   rcases had.Si b hb with (h1 | ⟨id,bk,k,N,hs,hm⟩) | h1
   . exact .inl h1
   . obtain ⟨g,N',cur,ty,hB⟩:=hi.blk id bk (hS _ (jH hs))
     rw [hB.μ] at hm
     simp only [Option.some.injEq,Prod.mk.injEq] at hm
     rw [<- hm.1];exact .inr hB.own
   . exact .inr (hi.new b h1)
 refine ⟨v,⟨E.μ,ok'⟩,rfl,gu, ?_,aG.keep (⟨fun _ _ h=>by simp at h,fun _ h=>h,fun _ _=>rfl⟩:Step ⟨fun _=>none,ok'⟩ ⟨E.μ,ok'⟩ w' w') r v hv',fun _ _=>rfl⟩
 have Ob:=fun i=>Jj (σ := σ) i S σ hS
 refine ⟨eQ,fun id bk hs => ?_,fun i j x y kN hj' hne hx hy => ?_,fun g cs hg => ?_,fun k hk=>hi.new k (Nat.le_trans had.size hk)⟩
 . have dP : σ.app (CV S) id=some bk:=hs
   rw [Ob id] at dP
   split at dP
   . rename_i fP
     obtain ⟨x,hx,rfl⟩:=fP
     rw [hS x hx] at dP
     simp only [Option.map_some,Option.some.injEq] at dP
     subst dP
     obtain ⟨g,N,cur,ty,hB⟩:=hi.blk _ _ (hS x hx)
     have hb:=had.block g (eS hB.heap) (by have:=eS hB.heap;omega)
     exact ⟨g,N,cur,ty,hB.μ,hb.trans hB.heap,hB.size,hB.len,hB.most,hB.own,fun _=>had.step.ok g (.inr ⟨x.1,x.2,x.2.k,N,LV hS hx,hB.μ⟩),fun hf=>by simp [cN.fz] at hf,hB.k,dC.keep gu.step hb hB.row⟩
   . rename_i ahv
     obtain ⟨g,N,cur,ty,hB⟩:=hi.blk _ _ dP
     have hg:=eS hB.heap
     refine ⟨g,N,cur,ty,hB.keep gu.step (had.block g hg (by omega)) fun hf hb => ?_⟩
     rcases had.Si g hb with (h1 | ⟨Hp,bk2,k2,N2,XA,uf⟩) | h1
     . exact hB.no hf h1
     . have hm:=jH XA
       refine hi.inj id Hp _ _ (by simp [dP]) (by simp [hS _ hm]) ?_ hB.μ uf rfl
       rintro rfl
       exact ahv ⟨_,hm,rfl⟩
     . omega
 . have keep:∀ i, σ.app (CV S) i≠none -> σ i≠none:=by
     intro i hn he
     apply hn
     rw [Ob i,he]
     split<;>rfl
   exact hi.inj i j x y (keep i kN) (keep j hj') hne hx hy
 . obtain ⟨h1,h2⟩:=hi.glob g cs hg
   exact ⟨gu.step.ok g h1,aZ.keep gu.step.bare (gu.step.same g h1) cs 0 h2⟩
theorem aw.of_flat {f:FuncId} {args iL:List AV} {r:AV} {p:Id} {S:List (Id × cN)} (h:VP P G f iL r) (hv:ah (ae.of S) args iL) (hf:we r) :
   aw P G f args p S { val:=r,rd:=S.map (·.1) }:=by
 refine ⟨h.1,fun own E w σ vs hS hi hr hμ => ?_⟩
 have yG:=hv.xM (hi.sub (ae.y7 hS)) hr
 refine (h.2 w vs _ (hi.n8 hS) yG).mono fun e w' he => ?_
 obtain ⟨v,ok',rfl,had,eQ,hv'⟩:=he
 have gu:Adv own E E w w':=⟨⟨fun _ _ h=>h,fun b hb=>hb,fun b hb=>had.step.same b (.inl hb)⟩,had.os,had.tape,had.output,had.size,fun k hk _=>had.block k hk (by omega),fun b hb => .inl hb⟩
 refine ⟨v,E,rfl,gu, ?_,hf _ _ _ _ _ hv',fun _ _=>rfl⟩
 refine hi.keep gu rfl (fun b hb=>Nat.lt_of_lt_of_le (hi.okb b hb) had.size) fun id bk g N hs hm => ?_
 obtain ⟨g',N',cur,ty,wX⟩:=hi.blk id bk hs
 rw [wX.μ] at hm
 simp only [Option.some.injEq,Prod.mk.injEq] at hm
 obtain ⟨rfl,_,rfl⟩:=hm
 have hg:=eS wX.heap
 exact ⟨had.block _ hg (by omega),wX.no⟩
end
end Go.VL
end

section
namespace Go.VL
section
variable {P:Program} {G:Nat->Option (List AV)}
theorem VP.S5 {f:FuncId} {args:List AV} {r:dH} (h:aw P G f args [] [] r) (hf:we r.val):VP P G f args r.val:=by
 refine ⟨h.1,fun w vs ok hi hr => ?_⟩
 refine (h.2 _ _ w _ vs (by simp) hi hr (fun _ _=>rfl)).mono fun e w' he => ?_
 obtain ⟨v,E',rfl,hp⟩:=he
 refine ⟨v,ok,rfl,⟨⟨fun _ _ h=>h,fun _ h=>h,hp.Au.step.same⟩,hp.Au.os,hp.Au.tape,hp.Au.output,hp.Au.size,hp.Au.block,fun _ h => .inl h⟩,fun b hb => ?_,hf _ _ _ _ _ hp.rep⟩
 exact Nat.lt_of_lt_of_le (hi.okb b hb) hp.Au.size
end
end Go.VL
end

section
namespace Go.VL
def vw:AV->Bool->Option Bool
 | .bool b,want=>some (b==want)
 | .top,_=>none
 | .anyb,_=>none
 | _,_=>some false
theorem Jk {b want:Bool}:vw (.bool b) want=some (b==want):=(rfl)
theorem Ox {l:List AV} {want:Bool}:vw (.tup l) want=some false:=(rfl)
section
variable (P:Program) (G:Nat->Option (List AV)) (π : Id)
def p6 (base:Nat) (Q:bP->VS->Prop) (n:Nat) (d:Option Nat) (os:List bc) (i:Nat) (t:List AV) (σ : ae):Option dH->Prop
 | some r=>vs P G π base Q n os (i+1) (e9 t d r.val) (σ.app r.up)
 | none=>False
def vsV (base:Nat) (Q:bP->VS->Prop) (n:Nat) (d:Option Nat) (os:List bc) (i:Nat) (t:List AV) (σ : ae):Option AV->Prop
 | some v=>vs P G π base Q n os (i+1) (e9 t d v) σ
 | none=>False
def vsG (base:Nat) (Q:bP->VS->Prop) (n:Nat) (o:bc) (os:List bc) (i:Nat) (t:List AV) (σ : ae):Option Bool->Prop
 | some true=>vs P G π base Q n (⟨o.dst,o.op,none⟩::os) i t σ
 | some false=>vs P G π base Q n os (i+1) (e9 t o.dst (.tup [])) σ
 | none=>False
def p7 (base:Nat) (Q:bP->VS->Prop) (n:Nat) (ps:List (Nat × Nat)) (d:Option Nat) (os:List bc) (i:Nat) (acc:List dH) (t:List AV) (σ : ae):Option dH->Prop
 | some r=>vd P G π base Q n ps os (i+1) (r::acc) (e9 t d r.val) (σ.app r.up)
 | none=>False
def vdV (base:Nat) (Q:bP->VS->Prop) (n:Nat) (ps:List (Nat × Nat)) (d:Option Nat) (os:List bc) (i:Nat) (acc:List dH) (t:List AV) (σ : ae):Option AV->Prop
 | some v=>vd P G π base Q n ps os (i+1) ({ val:=v }::acc) (e9 t d v) σ
 | none=>False
def vdG (base:Nat) (Q:bP->VS->Prop) (n:Nat) (ps:List (Nat × Nat)) (o:bc) (os:List bc) (i:Nat) (acc:List dH) (t:List AV) (σ : ae):Option Bool->Prop
 | some true=>vd P G π base Q n ps (⟨o.dst,o.op,none⟩::os) i acc t σ
 | some false=>vd P G π base Q n ps os (i+1) ({ val := .tup [] }::acc) (e9 t o.dst (.tup [])) σ
 | none=>False
variable {P} {G} {π}
variable {base:Nat} {Q:bP->VS->Prop} {n:Nat} {ps:List (Nat × Nat)} {d:Option Nat} {os:List bc} {i:Nat} {acc:List dH} {t:List AV} {σ : ae}
theorem EK {r:dH}:p6 P G π base Q n d os i t σ (some r)=vs P G π base Q n os (i+1) (e9 t d r.val) (σ.app r.up):=(rfl)
theorem EL {v:AV}:vsV P G π base Q n d os i t σ (some v)=vs P G π base Q n os (i+1) (e9 t d v) σ := (rfl)
theorem EM {r:dH}:p7 P G π base Q n ps d os i acc t σ (some r)=vd P G π base Q n ps os (i+1) (r::acc) (e9 t d r.val) (σ.app r.up):=(rfl)
theorem EN {v:AV}:vdV P G π base Q n ps d os i acc t σ (some v)=vd P G π base Q n ps os (i+1) ({ val:=v }::acc) (e9 t d v) σ := (rfl)
theorem BB {o:Option AV}:p6 P G π base Q n d os i t σ (bd o)=vsV P G π base Q n d os i t σ o:=by cases o<;>rfl
theorem BC {o:Option AV}:p7 P G π base Q n ps d os i acc t σ (bd o)=vdV P G π base Q n ps d os i acc t σ o:=by cases o<;>rfl
theorem EO {o:bc}:vsG P G π base Q n o os i t σ (some true)=vs P G π base Q n (⟨o.dst,o.op,none⟩::os) i t σ := (rfl)
theorem BD {o:bc}:vsG P G π base Q n o os i t σ (some false)=vs P G π base Q n os (i+1) (e9 t o.dst (.tup [])) σ := (rfl)
theorem EP {o:bc}:vdG P G π base Q n ps o os i acc t σ (some true)=vd P G π base Q n ps (⟨o.dst,o.op,none⟩::os) i acc t σ := (rfl)
theorem BF {o:bc}:vdG P G π base Q n ps o os i acc t σ (some false)=vd P G π base Q n ps os (i+1) ({ val := .tup [] }::acc) (e9 t o.dst (.tup [])) σ := (rfl)
theorem y8 {j:Nat} {want:Bool}:dL t (some (j,want))=vw (t.getD j (.tup [])) want:=by
 rw [List.getD_eq_getElem?_getD]
 show (match t[j]? with | some (.bool b)=>some (b==want) | some .top | some .anyb=>none | _=>some false)=_
 cases t[j]? with
 | none=>rfl
 | some c=>cases c<;>rfl
theorem BG {d:Nat} {v:AV}:e9 t (some d) v=t.set d v:=(rfl)
theorem BH {v:AV}:e9 t none v=t:=(rfl)
theorem abR {j:Nat}:(aI.t j).ev G t=t.getD j (.tup []):=(rfl)
theorem abS {a:AV}:(aI.c a).ev G t=a:=(rfl)
theorem abT {f:Nat}:(aI.f f).ev G t = .fn (.func f) [] []:=(rfl)
theorem Jl : σ.app [] = σ := (rfl)
theorem ER {x:Id × Option cN} {l:List (Id × Option cN)} : σ.app (x::l)=(σ.put x.1 x.2).app l:=(rfl)
theorem sg {op:eL aI} {j:Nat} {want:Bool}:vs P G π base Q n (⟨d,op,some (j,want)⟩::os) i t σ = vsG P G π base Q n ⟨d,op,none⟩ os i t σ (vw (t.getD j (.tup [])) want):=by
 rw [<- y8]
 unfold vs vsG
 simp only [ui]
 cases dL t (some (j,want)) with
 | none=>rfl
 | some b=>cases b<;>rfl
theorem dg {op:eL aI} {j:Nat} {want:Bool}:vd P G π base Q n ps (⟨d,op,some (j,want)⟩::os) i acc t σ = vdG P G π base Q n ps ⟨d,op,none⟩ os i acc t σ (vw (t.getD j (.tup [])) want):=by
 rw [<- y8]
 unfold vd vdG
 simp only [uj]
 cases dL t (some (j,want)) with
 | none=>rfl
 | some b=>cases b<;>rfl
theorem cU {op:eL aI} (h:op.nD=false):vs P G π base Q n (⟨d,op,none⟩::os) i t σ = p6 P G π base Q n d os i t σ (bu σ ((base+i) :: π) (op.map (aI.ev G t))):=by
 rw [abN h];unfold Bw;simp only [dL];cases bu σ ((base+i) :: π) (op.map (aI.ev G t))<;>rfl
theorem cV {op:eL aI} (h:op.nD=false):vd P G π base Q n ps (⟨d,op,none⟩::os) i acc t σ = p7 P G π base Q n ps d os i acc t σ (bu σ ((base+i) :: π) (op.map (aI.ev G t))):=by
 rw [abO h];unfold Bw;simp only [dL];cases bu σ ((base+i) :: π) (op.map (aI.ev G t))<;>rfl
theorem abU {x:aI}:vs P G π base Q n (⟨d, .mv x,none⟩::os) i t σ = p6 P G π base Q n d os i t σ (bu σ ((base+i) :: π) (.mv (x.ev G t))):=cU rfl
theorem abV {x:aI}:vd P G π base Q n ps (⟨d, .mv x,none⟩::os) i acc t σ = p7 P G π base Q n ps d os i acc t σ (bu σ ((base+i) :: π) (.mv (x.ev G t))):=cV rfl
theorem Oy {c a b:aI}:vs P G π base Q n (⟨d, .pick c a b,none⟩::os) i t σ = p6 P G π base Q n d os i t σ (bu σ ((base+i) :: π) (.pick (c.ev G t) (a.ev G t) (b.ev G t))):=cU rfl
theorem Oz {c a b:aI}:vd P G π base Q n ps (⟨d, .pick c a b,none⟩::os) i acc t σ = p7 P G π base Q n ps d os i acc t σ (bu σ ((base+i) :: π) (.pick (c.ev G t) (a.ev G t) (b.ev G t))):=cV rfl
theorem U6 {x:aI}:vs P G π base Q n (⟨d, .box x,none⟩::os) i t σ = p6 P G π base Q n d os i t σ (bu σ ((base+i) :: π) (.box (x.ev G t))):=cU rfl
theorem U7 {x:aI}:vd P G π base Q n ps (⟨d, .box x,none⟩::os) i acc t σ = p7 P G π base Q n ps d os i acc t σ (bu σ ((base+i) :: π) (.box (x.ev G t))):=cV rfl
theorem Jm {z:List AV} {l:List (Nat × Nat × aI)}:vs P G π base Q n (⟨d, .build z l,none⟩::os) i t σ = p6 P G π base Q n d os i t σ (bu σ ((base+i) :: π) (.build z (l.map fun p=>(p.1,p.2.1,p.2.2.ev G t)))):=cU rfl
theorem Jn {z:List AV} {l:List (Nat × Nat × aI)}:vd P G π base Q n ps (⟨d, .build z l,none⟩::os) i acc t σ = p7 P G π base Q n ps d os i acc t σ (bu σ ((base+i) :: π) (.build z (l.map fun p=>(p.1,p.2.1,p.2.2.ev G t)))):=cV rfl
theorem BI {k m:Nat} {z:AV} {l:List (Nat × aI)}:vs P G π base Q n (⟨d, .buildSl k m z l,none⟩::os) i t σ = p6 P G π base Q n d os i t σ (bu σ ((base+i) :: π) (.buildSl k m z (l.map fun p=>(p.1,p.2.ev G t)))):=cU rfl
theorem BJ {k m:Nat} {z:AV} {l:List (Nat × aI)}:vd P G π base Q n ps (⟨d, .buildSl k m z l,none⟩::os) i acc t σ = p7 P G π base Q n ps d os i acc t σ (bu σ ((base+i) :: π) (.buildSl k m z (l.map fun p=>(p.1,p.2.ev G t)))):=cV rfl
theorem OA {a:Bool} {m:Nat} {x:aI}:vs P G π base Q n (⟨d, .load a m x,none⟩::os) i t σ = p6 P G π base Q n d os i t σ (bu σ ((base+i) :: π) (.load a m (x.ev G t))):=cU rfl
theorem OC {a:Bool} {m:Nat} {x:aI}:vd P G π base Q n ps (⟨d, .load a m x,none⟩::os) i acc t σ = p7 P G π base Q n ps d os i acc t σ (bu σ ((base+i) :: π) (.load a m (x.ev G t))):=cV rfl
theorem Jo {m:Nat} {x v:aI}:vs P G π base Q n (⟨d, .store m x v,none⟩::os) i t σ = p6 P G π base Q n d os i t σ (bu σ ((base+i) :: π) (.store m (x.ev G t) (v.ev G t))):=cU rfl
theorem Jp {m:Nat} {x v:aI}:vd P G π base Q n ps (⟨d, .store m x v,none⟩::os) i acc t σ = p7 P G π base Q n ps d os i acc t σ (bu σ ((base+i) :: π) (.store m (x.ev G t) (v.ev G t))):=cV rfl
theorem Jq {x:aI}:vs P G π base Q n (⟨d, .nilck x,none⟩::os) i t σ = p6 P G π base Q n d os i t σ (bu σ ((base+i) :: π) (.nilck (x.ev G t))):=cU rfl
theorem Jr {x:aI}:vd P G π base Q n ps (⟨d, .nilck x,none⟩::os) i acc t σ = p7 P G π base Q n ps d os i acc t σ (bu σ ((base+i) :: π) (.nilck (x.ev G t))):=cV rfl
theorem U8 {o:BinOp} {sh:Sh} {x y:aI}:vs P G π base Q n (⟨d, .bin o sh x y,none⟩::os) i t σ = p6 P G π base Q n d os i t σ (bu σ ((base+i) :: π) (.bin o sh (x.ev G t) (y.ev G t))):=cU rfl
theorem U9 {o:BinOp} {sh:Sh} {x y:aI}:vd P G π base Q n ps (⟨d, .bin o sh x y,none⟩::os) i acc t σ = p7 P G π base Q n ps d os i acc t σ (bu σ ((base+i) :: π) (.bin o sh (x.ev G t) (y.ev G t))):=cV rfl
theorem abW {o:UnOp} {x:aI}:vs P G π base Q n (⟨d, .un o x,none⟩::os) i t σ = p6 P G π base Q n d os i t σ (bu σ ((base+i) :: π) (.un o (x.ev G t))):=cU rfl
theorem abX {o:UnOp} {x:aI}:vd P G π base Q n ps (⟨d, .un o x,none⟩::os) i acc t σ = p7 P G π base Q n ps d os i acc t σ (bu σ ((base+i) :: π) (.un o (x.ev G t))):=cV rfl
theorem Js {k:IntKind} {x:aI}:vs P G π base Q n (⟨d, .toInt k x,none⟩::os) i t σ = p6 P G π base Q n d os i t σ (bu σ ((base+i) :: π) (.toInt k (x.ev G t))):=cU rfl
theorem Jt {k:IntKind} {x:aI}:vd P G π base Q n ps (⟨d, .toInt k x,none⟩::os) i acc t σ = p7 P G π base Q n ps d os i acc t σ (bu σ ((base+i) :: π) (.toInt k (x.ev G t))):=cV rfl
theorem Ju {x:aI}:vs P G π base Q n (⟨d, .idStr x,none⟩::os) i t σ = p6 P G π base Q n d os i t σ (bu σ ((base+i) :: π) (.idStr (x.ev G t))):=cU rfl
theorem Jv {x:aI}:vd P G π base Q n ps (⟨d, .idStr x,none⟩::os) i acc t σ = p7 P G π base Q n ps d os i acc t σ (bu σ ((base+i) :: π) (.idStr (x.ev G t))):=cV rfl
theorem y9 {x:aI}:vs P G π base Q n (⟨d, .bytesStr x,none⟩::os) i t σ = p6 P G π base Q n d os i t σ (bu σ ((base+i) :: π) (.bytesStr (x.ev G t))):=cU rfl
theorem zc {x:aI}:vd P G π base Q n ps (⟨d, .bytesStr x,none⟩::os) i acc t σ = p7 P G π base Q n ps d os i acc t σ (bu σ ((base+i) :: π) (.bytesStr (x.ev G t))):=cV rfl
theorem Va {x c:aI}:vs P G π base Q n (⟨d, .idx x c,none⟩::os) i t σ = p6 P G π base Q n d os i t σ (bu σ ((base+i) :: π) (.idx (x.ev G t) (c.ev G t))):=cU rfl
theorem Vb {x c:aI}:vd P G π base Q n ps (⟨d, .idx x c,none⟩::os) i acc t σ = p7 P G π base Q n ps d os i acc t σ (bu σ ((base+i) :: π) (.idx (x.ev G t) (c.ev G t))):=cV rfl
theorem Vc {x y:aI}:vs P G π base Q n (⟨d, .ovl x y,none⟩::os) i t σ = p6 P G π base Q n d os i t σ (bu σ ((base+i) :: π) (.ovl (x.ev G t) (y.ev G t))):=cU rfl
theorem Vd {x y:aI}:vd P G π base Q n ps (⟨d, .ovl x y,none⟩::os) i acc t σ = p7 P G π base Q n ps d os i acc t σ (bu σ ((base+i) :: π) (.ovl (x.ev G t) (y.ev G t))):=cV rfl
theorem OD {fn:Fn} {a c:List aI}:vs P G π base Q n (⟨d, .mkfn fn a c,none⟩::os) i t σ = p6 P G π base Q n d os i t σ (bu σ ((base+i) :: π) (.mkfn fn (a.map (aI.ev G t)) (c.map (aI.ev G t)))):=cU rfl
theorem OE {fn:Fn} {a c:List aI}:vd P G π base Q n ps (⟨d, .mkfn fn a c,none⟩::os) i acc t σ = p7 P G π base Q n ps d os i acc t σ (bu σ ((base+i) :: π) (.mkfn fn (a.map (aI.ev G t)) (c.map (aI.ev G t)))):=cV rfl
theorem OG {k b:Nat} {z:AV} {l c:aI}:vs P G π base Q n (⟨d, .mksl k b z l c,none⟩::os) i t σ = p6 P G π base Q n d os i t σ (bu σ ((base+i) :: π) (.mksl k b z (l.ev G t) (c.ev G t))):=cU rfl
theorem OH {k b:Nat} {z:AV} {l c:aI}:vd P G π base Q n ps (⟨d, .mksl k b z l c,none⟩::os) i acc t σ = p7 P G π base Q n ps d os i acc t σ (bu σ ((base+i) :: π) (.mksl k b z (l.ev G t) (c.ev G t))):=cV rfl
theorem Jw {k:Nat} {x:aI} {lo hi mx:Option aI}:vs P G π base Q n (⟨d, .slice k x lo hi mx,none⟩::os) i t σ = p6 P G π base Q n d os i t σ (bu σ ((base+i) :: π) (.slice k (x.ev G t) (lo.map (aI.ev G t)) (hi.map (aI.ev G t)) (mx.map (aI.ev G t)))):=cU rfl
theorem Jy {k:Nat} {x:aI} {lo hi mx:Option aI}:vd P G π base Q n ps (⟨d, .slice k x lo hi mx,none⟩::os) i acc t σ = p7 P G π base Q n ps d os i acc t σ (bu σ ((base+i) :: π) (.slice k (x.ev G t) (lo.map (aI.ev G t)) (hi.map (aI.ev G t)) (mx.map (aI.ev G t)))):=cV rfl
theorem ES {x:aI} {lo hi:Option aI}:vs P G π base Q n (⟨d, .sliceS x lo hi,none⟩::os) i t σ = p6 P G π base Q n d os i t σ (bu σ ((base+i) :: π) (.sliceS (x.ev G t) (lo.map (aI.ev G t)) (hi.map (aI.ev G t)))):=cU rfl
theorem ET {x:aI} {lo hi:Option aI}:vd P G π base Q n ps (⟨d, .sliceS x lo hi,none⟩::os) i acc t σ = p7 P G π base Q n ps d os i acc t σ (bu σ ((base+i) :: π) (.sliceS (x.ev G t) (lo.map (aI.ev G t)) (hi.map (aI.ev G t)))):=cV rfl
theorem Jz {o:Nat} {x:aI}:vs P G π base Q n (⟨d, .faddr o x,none⟩::os) i t σ = p6 P G π base Q n d os i t σ (bu σ ((base+i) :: π) (.faddr o (x.ev G t))):=cU rfl
theorem JA {o:Nat} {x:aI}:vd P G π base Q n ps (⟨d, .faddr o x,none⟩::os) i acc t σ = p7 P G π base Q n ps d os i acc t σ (bu σ ((base+i) :: π) (.faddr o (x.ev G t))):=cV rfl
theorem JB {a:Bool} {o m:Nat} {x:aI}:vs P G π base Q n (⟨d, .field a o m x,none⟩::os) i t σ = p6 P G π base Q n d os i t σ (bu σ ((base+i) :: π) (.field a o m (x.ev G t))):=cU rfl
theorem JC {a:Bool} {o m:Nat} {x:aI}:vd P G π base Q n ps (⟨d, .field a o m x,none⟩::os) i acc t σ = p7 P G π base Q n ps d os i acc t σ (bu σ ((base+i) :: π) (.field a o m (x.ev G t))):=cV rfl
theorem EU {k:Nat} {x j:aI}:vs P G π base Q n (⟨d, .iaddrS k x j,none⟩::os) i t σ = p6 P G π base Q n d os i t σ (bu σ ((base+i) :: π) (.iaddrS k (x.ev G t) (j.ev G t))):=cU rfl
theorem EW {k:Nat} {x j:aI}:vd P G π base Q n ps (⟨d, .iaddrS k x j,none⟩::os) i acc t σ = p7 P G π base Q n ps d os i acc t σ (bu σ ((base+i) :: π) (.iaddrS k (x.ev G t) (j.ev G t))):=cV rfl
theorem EX {m k:Nat} {x j:aI}:vs P G π base Q n (⟨d, .iaddrA m k x j,none⟩::os) i t σ = p6 P G π base Q n d os i t σ (bu σ ((base+i) :: π) (.iaddrA m k (x.ev G t) (j.ev G t))):=cU rfl
theorem EY {m k:Nat} {x j:aI}:vd P G π base Q n ps (⟨d, .iaddrA m k x j,none⟩::os) i acc t σ = p7 P G π base Q n ps d os i acc t σ (bu σ ((base+i) :: π) (.iaddrA m k (x.ev G t) (j.ev G t))):=cV rfl
theorem EZ {x j:aI}:vs P G π base Q n (⟨d, .indexS x j,none⟩::os) i t σ = p6 P G π base Q n d os i t σ (bu σ ((base+i) :: π) (.indexS (x.ev G t) (j.ev G t))):=cU rfl
theorem E4 {x j:aI}:vd P G π base Q n ps (⟨d, .indexS x j,none⟩::os) i acc t σ = p7 P G π base Q n ps d os i acc t σ (bu σ ((base+i) :: π) (.indexS (x.ev G t) (j.ev G t))):=cV rfl
theorem E5 {a:Bool} {m k:Nat} {x j:aI}:vs P G π base Q n (⟨d, .indexA a m k x j,none⟩::os) i t σ = p6 P G π base Q n d os i t σ (bu σ ((base+i) :: π) (.indexA a m k (x.ev G t) (j.ev G t))):=cU rfl
theorem E6 {a:Bool} {m k:Nat} {x j:aI}:vd P G π base Q n ps (⟨d, .indexA a m k x j,none⟩::os) i acc t σ = p7 P G π base Q n ps d os i acc t σ (bu σ ((base+i) :: π) (.indexA a m k (x.ev G t) (j.ev G t))):=cV rfl
theorem BL {x:aI} {j:Nat}:vs P G π base Q n (⟨d, .extract x j,none⟩::os) i t σ = p6 P G π base Q n d os i t σ (bu σ ((base+i) :: π) (.extract (x.ev G t) j)):=cU rfl
theorem BM {x:aI} {j:Nat}:vd P G π base Q n ps (⟨d, .extract x j,none⟩::os) i acc t σ = p7 P G π base Q n ps d os i acc t σ (bu σ ((base+i) :: π) (.extract (x.ev G t) j)):=cV rfl
theorem Ve {b:Bool} {x:aI}:vs P G π base Q n (⟨d, .len b x,none⟩::os) i t σ = p6 P G π base Q n d os i t σ (bu σ ((base+i) :: π) (.len b (x.ev G t))):=cU rfl
theorem Vf {b:Bool} {x:aI}:vd P G π base Q n ps (⟨d, .len b x,none⟩::os) i acc t σ = p7 P G π base Q n ps d os i acc t σ (bu σ ((base+i) :: π) (.len b (x.ev G t))):=cV rfl
theorem OI {m:Nat} {x:aI}:vs P G π base Q n (⟨d, .lenN m x,none⟩::os) i t σ = p6 P G π base Q n d os i t σ (bu σ ((base+i) :: π) (.lenN m (x.ev G t))):=cU rfl
theorem OJ {m:Nat} {x:aI}:vd P G π base Q n ps (⟨d, .lenN m x,none⟩::os) i acc t σ = p7 P G π base Q n ps d os i acc t σ (bu σ ((base+i) :: π) (.lenN m (x.ev G t))):=cV rfl
theorem E7 {k b:Nat} {s x:aI}:vs P G π base Q n (⟨d, .append k b s x,none⟩::os) i t σ = p6 P G π base Q n d os i t σ (bu σ ((base+i) :: π) (.append k b (s.ev G t) (x.ev G t))):=cU rfl
theorem E8 {k b:Nat} {s x:aI}:vd P G π base Q n ps (⟨d, .append k b s x,none⟩::os) i acc t σ = p7 P G π base Q n ps d os i acc t σ (bu σ ((base+i) :: π) (.append k b (s.ev G t) (x.ev G t))):=cV rfl
theorem Vg {x y:aI}:vs P G π base Q n (⟨d, .min x y,none⟩::os) i t σ = p6 P G π base Q n d os i t σ (bu σ ((base+i) :: π) (.min (x.ev G t) (y.ev G t))):=cU rfl
theorem Vh {x y:aI}:vd P G π base Q n ps (⟨d, .min x y,none⟩::os) i acc t σ = p7 P G π base Q n ps d os i acc t σ (bu σ ((base+i) :: π) (.min (x.ev G t) (y.ev G t))):=cV rfl
theorem Vi {x y:aI}:vs P G π base Q n (⟨d, .max x y,none⟩::os) i t σ = p6 P G π base Q n d os i t σ (bu σ ((base+i) :: π) (.max (x.ev G t) (y.ev G t))):=cU rfl
theorem Vj {x y:aI}:vd P G π base Q n ps (⟨d, .max x y,none⟩::os) i acc t σ = p7 P G π base Q n ps d os i acc t σ (bu σ ((base+i) :: π) (.max (x.ev G t) (y.ev G t))):=cV rfl
theorem Vk {x:aI}:vs P G π base Q n (⟨d, .cap x,none⟩::os) i t σ = p6 P G π base Q n d os i t σ (bu σ ((base+i) :: π) (.cap (x.ev G t))):=cU rfl
theorem Vl {x:aI}:vd P G π base Q n ps (⟨d, .cap x,none⟩::os) i acc t σ = p7 P G π base Q n ps d os i acc t σ (bu σ ((base+i) :: π) (.cap (x.ev G t))):=cV rfl
theorem JD {k:Nat} {z:AV} {x:aI}:vs P G π base Q n (⟨d, .clear k z x,none⟩::os) i t σ = p6 P G π base Q n d os i t σ (bu σ ((base+i) :: π) (.clear k z (x.ev G t))):=cU rfl
theorem JE {k:Nat} {z:AV} {x:aI}:vd P G π base Q n ps (⟨d, .clear k z x,none⟩::os) i acc t σ = p7 P G π base Q n ps d os i acc t σ (bu σ ((base+i) :: π) (.clear k z (x.ev G t))):=cV rfl
theorem OK {k:Nat} {e x:aI}:vs P G π base Q n (⟨d, .copy k e x,none⟩::os) i t σ = p6 P G π base Q n d os i t σ (bu σ ((base+i) :: π) (.copy k (e.ev G t) (x.ev G t))):=cU rfl
theorem OM {k:Nat} {e x:aI}:vd P G π base Q n ps (⟨d, .copy k e x,none⟩::os) i acc t σ = p7 P G π base Q n ps d os i acc t σ (bu σ ((base+i) :: π) (.copy k (e.ev G t) (x.ev G t))):=cV rfl
theorem OO {k b:Nat} {z:AV} {s m:aI}:vs P G π base Q n (⟨d, .appz k b z s m,none⟩::os) i t σ = p6 P G π base Q n d os i t σ (bu σ ((base+i) :: π) (.appz k b z (s.ev G t) (m.ev G t))):=cU rfl
theorem OP {k b:Nat} {z:AV} {s m:aI}:vd P G π base Q n ps (⟨d, .appz k b z s m,none⟩::os) i acc t σ = p7 P G π base Q n ps d os i acc t σ (bu σ ((base+i) :: π) (.appz k b z (s.ev G t) (m.ev G t))):=cV rfl
theorem s_call {f:aI} {l:List aI}:vs P G π base Q n (⟨d, .call f l,none⟩::os) i t σ = Jf P G π base Q n d os i t σ (some true) (f.ev G t) (l.map (aI.ev G t)):=S3
theorem OQ {f:aI} {l:List aI}:vd P G π base Q n ps (⟨d, .call f l,none⟩::os) i acc t σ = Jg P G π base Q n ps d os i acc t σ (some true) (f.ev G t) (l.map (aI.ev G t)):=S4
end
section
variable {σ : ae} {p:Id}
theorem OR {x:AV}:bu σ p (.mv x)=bd (some x):=(rfl)
theorem E9 {b:Bool} {x y:AV}:bu σ p (.pick (.bool b) x y)=bd (some (if b then x else y)):=(rfl)
theorem JF {x:AV}:bu σ p (.box x)=if x.cells.all AV.one=true then some { val := .ref p 0 0,up:=[(p,some ⟨[x],x.size,false⟩)] } else none:=(rfl)
theorem BN {z:List AV} {l:List (Nat × Nat × AV)}:bu σ p (.build z l)=bd ((lL z l).map .agg):=(rfl)
theorem qG {k n:Nat} {z:AV} {ps:List (Nat × AV)}:bu σ p (.buildSl k n z ps)=(match ir k (List.replicate n z) ps with
   | some es=>if z.size=k/\z.cells.all AV.one=true then (if n=0 then some { val := .tsl k [] } else some { val := .osl p k 0 n false,up:=[(p,some ⟨es,k,false⟩)] }) else none
   | none=>none):=(rfl)
theorem Fa {a:Bool} {n:Nat} {x:AV}:bu σ p (.load a n x)=jq σ a n x:=(rfl)
theorem BO {n:Nat} {x v:AV}:bu σ p (.store n x v)=j5 σ n x v:=(rfl)
theorem JG {o:BinOp} {sh:Sh} {x y:AV}:bu σ p (.bin o sh x y)=bd (bo o sh x y):=(rfl)
theorem OS {o:UnOp} {x:AV}:bu σ p (.un o x)=bd (vun o x):=(rfl)
theorem BP {k k':IntKind} {n:Int}:bu σ p (.toInt k (.int k' n))=bd (some (.int k (k.wrap n))):=(rfl)
theorem BQ {s:List UInt8}:bu σ p (.idStr (.str s))=bd (some (.str s)):=(rfl)
theorem uv {x:AV}:bu σ p (.bytesStr x)=lV σ x:=(rfl)
theorem Fb {fn:Fn} {a c:List AV}:bu σ p (.mkfn fn a c)=bd (some (.fn fn a c)):=(rfl)
theorem Fc {k b:Nat} {z l c:AV}:bu σ p (.mksl k b z l c)=g8 p k b z l c:=(rfl)
theorem BR {k:Nat} {x:AV} {lo hi mx:Option AV}:bu σ p (.slice k x lo hi mx)=mQ σ k x lo hi mx (fC k x lo hi mx):=(rfl)
theorem uw {k:Nat} {x:AV} {lo hi mx:Option AV} {v:AV}:mQ σ k x lo hi mx (some v)=bd (some v):=(rfl)
theorem zd {x:AV} {lo hi:Option AV}:bu σ p (.sliceS x lo hi)=bd (pj x lo hi):=(rfl)
theorem sI {o:Nat} {id:Id} {e q:Nat}:bu σ p (.faddr o (.ref id e q))=bd (some (.ref id e (q+o))):=(rfl)
theorem uz {o:Nat} {cs:List AV} {q:Nat}:bu σ p (.faddr o (.ep cs q))=bd (some (.ep cs (q+o))):=(rfl)
theorem BS {a:Bool} {o n:Nat} {cs:List AV}:bu σ p (.field a o n (.agg cs))=bd (part a cs o n):=(rfl)
theorem ze {k:Nat} {x i:AV}:bu σ p (.iaddrS k x i)=bd (bG k x i):=(rfl)
theorem zf {n k:Nat} {x i:AV}:bu σ p (.iaddrA n k x i)=bd (j6 n k x i):=(rfl)
theorem ta {s:List UInt8} {k:IntKind} {i:Int}:bu σ p (.indexS (.str s) (.int k i))=if 0<=i then bd ((s[i.toNat]?).map fun b => .int .u8 b.toNat) else none:=(rfl)
theorem zg {a:Bool} {n k:Nat} {cs:List AV} {k':IntKind} {i:Int}:bu σ p (.indexA a n k (.agg cs) (.int k' i))=if 0<=i/\i<n then bd (part a cs (i.toNat*k) k) else none:=(rfl)
theorem xe {l:List AV} {i:Nat}:bu σ p (.extract (.tup l) i)=bd l[i]? := (rfl)
theorem JH {b:Bool} {x:AV}:bu σ p (.len b x)=bd (jY b x):=(rfl)
theorem Fe {n:Nat} {x:AV}:bu σ p (.lenN n x)=bd (some (.int .i64 n)):=(rfl)
theorem zh {k b:Nat} {s x:AV}:bu σ p (.append k b s x)=dR σ p k b s x:=(rfl)
theorem JI {k k':IntKind} {a b:Int}:bu σ p (.min (.int k a) (.int k' b))=bd (some (.int k (if b<a then b else a))):=(rfl)
theorem JJ {k k':IntKind} {a b:Int}:bu σ p (.max (.int k a) (.int k' b))=bd (some (.int k (if b>a then b else a))):=(rfl)
theorem JK {x:AV}:bu σ p (.cap x)=yB σ x (NM x):=(rfl)
theorem zi {x v:AV}:yB σ x (some v)=bd (some v):=(rfl)
theorem JL {x c:AV}:bu σ p (.idx x c)=bd (NN x c):=(rfl)
theorem Ff {s:List UInt8} {c:Int}:NN (.str s) (.int .u8 c)=some (.int .i64 (mP s c.toNat.toUInt8)):=(rfl)
theorem JM {x y:AV}:bu σ p (.ovl x y)=Lp σ x y:=(rfl)
theorem BU {k:Nat} {z x:AV}:bu σ p (.clear k z x)=yA σ k z x:=(rfl)
theorem Fh {k:Nat} {d x:AV}:bu σ p (.copy k d x)=Ei σ k d x:=(rfl)
theorem Fi {k b:Nat} {z s n:AV}:bu σ p (.appz k b z s n)=Bd p k b z s n:=(rfl)
theorem sJ {id:Id} {e o:Nat}:bu σ p (.nilck (.ref id e o))=bd (some (.ref id e o)):=(rfl)
theorem uA {cs:List AV} {o:Nat}:bu σ p (.nilck (.ep cs o))=bd (some (.ep cs o)):=(rfl)
theorem uC {f:FuncId} {a c:List AV}:bu σ p (.nilck (.fn (.func f) a c))=bd (some (.fn (.func f) a c)):=(rfl)
theorem CY {k:IntKind} {a b:Int}:bo .add .int (.int k a) (.int k b)=some (.int k (k.wrap (a+b))):=by simp only [bo];rw [show iH .add .int (.int k a) (.int k b)=some (.int k (k.wrap (a+b))) from by simp [iH,n4]]
theorem JN {k:IntKind} {a b:Int}:bo .sub .int (.int k a) (.int k b)=some (.int k (k.wrap (a-b))):=by simp only [bo];rw [show iH .sub .int (.int k a) (.int k b)=some (.int k (k.wrap (a-b))) from by simp [iH,n4]]
theorem JO {k:IntKind} {a b:Int}:bo .mul .int (.int k a) (.int k b)=some (.int k (k.wrap (a*b))):=by simp only [bo];rw [show iH .mul .int (.int k a) (.int k b)=some (.int k (k.wrap (a*b))) from by simp [iH,n4]]
theorem CZ {k:IntKind} {a b:Int} (h:b≠0):bo .quo .int (.int k a) (.int k b)=some (.int k (k.wrap (a.tdiv b))):=by simp only [bo];rw [show iH .quo .int (.int k a) (.int k b)=some (.int k (k.wrap (a.tdiv b))) from by simp [iH,n4,h]]
theorem JP {k:IntKind} {a b:Int} (h:b≠0):bo .rem .int (.int k a) (.int k b)=some (.int k (a.tmod b)):=by simp only [bo];rw [show iH .rem .int (.int k a) (.int k b)=some (.int k (a.tmod b)) from by simp [iH,n4,h]]
theorem JQ {k:IntKind} {a b:Int}:bo .eql .int (.int k a) (.int k b)=some (.bool (decide (a=b))):=by simp only [bo];rw [show iH .eql .int (.int k a) (.int k b)=some (.bool (decide (a=b))) from by simp only [iH,n4,or_true,if_true];rfl]
theorem JR {k:IntKind} {a b:Int}:bo .neq .int (.int k a) (.int k b)=some (.bool (decide (a≠b))):=by simp only [bo];rw [show iH .neq .int (.int k a) (.int k b)=some (.bool (decide (a≠b))) from by simp [iH,n4,bne,Int.instDecidableEq];rfl]
theorem JS {k:IntKind} {a b:Int}:bo .lss .int (.int k a) (.int k b)=some (.bool (decide (a<b))):=by simp only [bo];rw [show iH .lss .int (.int k a) (.int k b)=some (.bool (decide (a<b))) from by simp [iH,n4]]
theorem JT {k:IntKind} {a b:Int}:bo .leq .int (.int k a) (.int k b)=some (.bool (decide (a<=b))):=by simp only [bo];rw [show iH .leq .int (.int k a) (.int k b)=some (.bool (decide (a<=b))) from by simp [iH,n4]]
theorem JU {k:IntKind} {a b:Int}:bo .gtr .int (.int k a) (.int k b)=some (.bool (decide (b<a))):=by simp only [bo];rw [show iH .gtr .int (.int k a) (.int k b)=some (.bool (decide (b<a))) from by simp [iH,n4]]
theorem JV {k:IntKind} {a b:Int}:bo .geq .int (.int k a) (.int k b)=some (.bool (decide (b<=a))):=by simp only [bo];rw [show iH .geq .int (.int k a) (.int k b)=some (.bool (decide (b<=a))) from by simp [iH,n4]]
theorem C0 {k k':IntKind} {a b:Int} (h:0<=b):bo .shl .int (.int k a) (.int k' b)=some (.int k (k.wrap (a*2 ^ (min b.toNat k.bits)))):=by simp only [bo];rw [show iH .shl .int (.int k a) (.int k' b)=some (.int k (k.wrap (a*2 ^ (min b.toNat k.bits)))) from by simp [iH,n4,Int.not_lt.2 h]]
theorem mV {k k':IntKind} {a b:Int} (h:0<=b):bo .shr .int (.int k a) (.int k' b)=some (.int k (a.fdiv (2 ^ (min b.toNat k.bits)))):=by simp only [bo];rw [show iH .shr .int (.int k a) (.int k' b)=some (.int k (a.fdiv (2 ^ (min b.toNat k.bits)))) from by simp [iH,n4,Int.not_lt.2 h]]
theorem xf {a b:List UInt8}:bo .eql .str (.str a) (.str b)=some (.bool (a==b)):=(rfl)
theorem xg {a b:List UInt8}:bo .neq .str (.str a) (.str b)=some (.bool !(a==b)):=(rfl)
theorem uE {a b:Bool}:bo .eql .bool (.bool a) (.bool b)=some (.bool (a==b)):=(rfl)
theorem uF {a b:Bool}:bo .neq .bool (.bool a) (.bool b)=some (.bool !(a==b)):=(rfl)
theorem Fj {k:Nat}:bo .eql .slice (.sl k []) .nils=some .anyb:=(rfl)
theorem Fk {k:Nat} {e:AV} {es:List AV}:bo .eql .slice (.sl k (e::es)) .nils=some (.bool false):=(rfl)
theorem Fm {id:Id} {k o l:Nat} {t:Bool}:bo .eql .slice (.osl id k o l t) .nils=some (.bool false):=(rfl)
theorem Fo:bo .eql .slice .nils .nils=some (.bool true):=(rfl)
theorem Fp {id:Id} {e o:Nat}:bo .eql .ptr (.ref id e o) .nilp=some (.bool false):=(rfl)
theorem OT {a:Bool}:vun .not (.bool a)=some (.bool !a):=(rfl)
theorem OU {k:IntKind} {a:Int}:vun .neg (.int k a)=some (.int k (k.wrap (0-a))):=(rfl)
theorem Fq:jY false .nils=some (.int .i64 0):=(rfl)
theorem OV {k:Nat} {es:List AV}:jY false (.sl k es)=some (.int .i64 es.length):=(rfl)
theorem JW {k:Nat} {es:List AV}:jY false (.tsl k es)=some (.int .i64 es.length):=(rfl)
theorem JX {id:Id} {k o l:Nat} {b:Bool}:jY false (.osl id k o l b)=some (.int .i64 l):=(rfl)
theorem JY {s:List UInt8}:jY true (.str s)=some (.int .i64 s.length):=(rfl)
end
end Go.VL
end

section
namespace Go.VL
abbrev oM (d x:Nat):bc:=⟨some d, .mv (.t x),none⟩
abbrev oI (d:Nat) (z:Int):bc:=⟨some d, .mv (.c (.int .i64 z)),none⟩
abbrev oB (d:Nat) (b:Bool):bc:=⟨some d, .mv (.c (.bool b)),none⟩
abbrev oZ (d:Nat):bc:=⟨some d, .mv (.c .nils),none⟩
abbrev oL (d n x:Nat):bc:=⟨some d, .load false n (.t x),none⟩
abbrev xh (d n x:Nat):bc:=⟨some d, .load true n (.t x),none⟩
abbrev oF (d o x:Nat):bc:=⟨some d, .faddr o (.t x),none⟩
abbrev oA (d n x y:Nat):bc:=⟨some d, .iaddrS n (.t x) (.t y),none⟩
abbrev oN (d x:Nat):bc:=⟨some d, .len false (.t x),none⟩
abbrev oS (n x y:Nat):bc:=⟨none, .store n (.t x) (.t y),none⟩
abbrev oX (d x:Nat):bc:=⟨some d, .box (.t x),none⟩
abbrev oE (d x j:Nat):bc:=⟨some d, .extract (.t x) j,none⟩
abbrev oNo (d x:Nat):bc:=⟨some d, .un .not (.t x),none⟩
abbrev Fs (d x y:Nat):bc:=⟨some d, .pick (.t x) (.t y) (.c (.bool false)),none⟩
abbrev JZ (d x y:Nat):bc:=⟨some d, .pick (.t x) (.c (.bool true)) (.t y),none⟩
abbrev oC (d f x:Nat):bc:=⟨some d, .call (.f f) [.t x],none⟩
abbrev lB (d f x y:Nat):bc:=⟨some d, .call (.f f) [.t x, .t y],none⟩
abbrev oK (d:Nat) (k:IntKind) (x:Nat):bc:=⟨some d, .toInt k (.t x),none⟩
abbrev Sp (d k b x y:Nat):bc:=⟨some d, .append k b (.t x) (.t y),none⟩
abbrev oT (d:Nat) (o:BinOp) (x y:Nat):bc:=⟨some d, .bin o .int (.t x) (.t y),none⟩
abbrev dr (d:Nat) (o:BinOp) (x:Nat) (z:Int):bc:=⟨some d, .bin o .int (.t x) (.c (.int .i64 z)),none⟩
abbrev gM (d x g:Nat) (b:Bool):bc:=⟨some d, .mv (.t x),some (g,b)⟩
abbrev gL (d n x g:Nat) (b:Bool):bc:=⟨some d, .load false n (.t x),some (g,b)⟩
abbrev OW (d n x g:Nat) (b:Bool):bc:=⟨some d, .load true n (.t x),some (g,b)⟩
abbrev gF (d o x g:Nat) (b:Bool):bc:=⟨some d, .faddr o (.t x),some (g,b)⟩
abbrev gN (d x g:Nat) (b:Bool):bc:=⟨some d, .len false (.t x),some (g,b)⟩
abbrev gT (d:Nat) (o:BinOp) (x y g:Nat) (b:Bool):bc:=⟨some d, .bin o .int (.t x) (.t y),some (g,b)⟩
abbrev cS (l:List bc) (c:bJ):bJ := .seq (.reg none l) c
abbrev cR (l:List bc):bJ := .reg none l
end Go.VL
end
