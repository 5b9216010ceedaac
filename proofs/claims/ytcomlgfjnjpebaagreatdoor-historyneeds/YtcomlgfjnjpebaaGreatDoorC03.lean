/- For the claim of HistoryNeeds: parts VL15, VL16, VL17, VL18, VL19, VL20, VL21, VL22, VL24, VL23, VL25. -/
import Derived.Test.YtcomlgfjnjpebaaGreatDoorC02
import Derived.LoopN
set_option linter.unusedSimpArgs false
set_option linter.unusedVariables false
section
namespace Go.VL
theorem foldT_ext {X Y : Nat → Bool} : ∀ (L : List Done) (i : Nat) (t : List AV), (∀ k, k < L.length → X (i + k) = Y (i + k)) → foldT X L i t = foldT Y L i t
  | [], _, _, _ => rfl
  | (d, r) :: L, i, t, h => by
    simp only [foldT]
    have h0 := h 0 (by simp)
    rw [Nat.add_zero] at h0
    rw [h0]
    exact foldT_ext L (i + 1) _ (fun k hk => by rw [show i + 1 + k = i + (k + 1) from by omega]; exact h (k + 1) (by simpa using hk))
theorem foldS_ext {X Y : Nat → Bool} : ∀ (L : List Done) (i : Nat) (σ : Store), (∀ k, k < L.length → X (i + k) = Y (i + k)) → foldS X L i σ = foldS Y L i σ
  | [], _, _, _ => rfl
  | (d, r) :: L, i, t, h => by
    simp only [foldS]
    have h0 := h 0 (by simp)
    rw [Nat.add_zero] at h0
    rw [h0]
    exact foldS_ext L (i + 1) _ (fun k hk => by rw [show i + 1 + k = i + (k + 1) from by omega]; exact h (k + 1) (by simpa using hk))
theorem countP_lt {X Y : Nat → Bool} {i : Nat} (hX : X i = false) (hY : Y i = true) (hXY : ∀ k, X k = true → Y k = true) : ∀ (l : List Nat), i ∈ l → l.countP X < l.countP Y
  | [], h => by simp at h
  | a :: l, h => by
    have hle : l.countP X ≤ l.countP Y := List.countP_mono_left fun x _ hx => hXY x hx
    simp only [List.countP_cons]
    rcases List.mem_cons.1 h with rfl | h
    · simp [hX, hY]; omega
    · have := countP_lt hX hY hXY l h
      by_cases ha : X a = true
      · simp [ha, hXY a ha]; omega
      · simp [ha]; split <;> omega
theorem countP_all {X : Nat → Bool} : ∀ (l : List Nat), l.length ≤ l.countP X → ∀ i ∈ l, X i = true
  | [], _, i, h => by simp at h
  | a :: l, hc, i, h => by
    have hle := List.countP_le_length (p := X) (l := l)
    simp only [List.countP_cons, List.length_cons] at hc
    by_cases ha : X a = true
    · simp only [ha, if_true] at hc
      rcases List.mem_cons.1 h with rfl | h
      · exact ha
      · exact countP_all l (by omega) i h
    · simp [ha] at hc; omega
section
variable {P : Program} {G : Nat → Option (List AV)} {own : Nat → Prop}
theorem mem_allPairs {n i j : Nat} (hij : i < j) (hj : j < n) : (i, j) ∈ allPairs n := by
  unfold allPairs
  rw [List.mem_flatMap]
  exact ⟨j, List.mem_range.2 hj, List.mem_map.2 ⟨i, List.mem_range.2 hij, rfl⟩⟩
structure Mid (G : Nat → Option (List AV)) (π : Id) (own : Nat → Prop) (L : List Done) (base n : Nat) (t0 : List AV) (σ0 : Store) (a0 : Act) (E0 : Env) (w0 : World) (X : Nat → Bool) (E : Env) (w : World) (a : Act) : Prop where
  frame : FrameRep E w (foldT X L 0 t0) a
  inv : Inv G own E w (foldS X L 0 σ0)
  adv : AdvP own π E0 E w0 w
  free : ∀ i, i < n → X i = false → ∀ j, ((base + i) :: π) <:+ j → E.μ j = none
  more : Free E π (base + n)
  defers : a.defers = a0.defers
theorem par_sound {ops : Array Oper} {vs : List VOper} (hvs : ops.toList.mapM (cOper P ops) = some vs) (hord : orderOk vs (ops.toList.map onsOf) = true)
    {π : Id} {base : Nat} {t0 : List AV} {σ0 : Store} {rs : List Res} (hrl : rs.length = vs.length)
    (hst : ∀ k o r, vs[k]? = some o → rs[k]? = some r → stepCond P G π base o (0 + k) (foldT (fun m => m < 0 + k) ((vs.map (·.dst)).zip rs) 0 t0) (foldS (fun m => m < 0 + k) ((vs.map (·.dst)).zip rs) 0 σ0) r)
    (hap : allApart rs (freePairs vs (ops.toList.map onsOf))) {a0 : Act} {E0 : Env} {w0 : World} {Q : Exit → Act → World → Prop}
    (hQ : ∀ a E w, Mid G π own ((vs.map (·.dst)).zip rs) base ops.size t0 σ0 a0 E0 w0 (fun _ => true) E w a → Q .normal a w) :
    ∀ (fuel : Nat) (listed : Array Bool) (a : Act) (E : Env) (w : World), listed.size = ops.size → ops.size ≤ (List.range ops.size).countP (fun i => listed.getD i false) + fuel →
      (∀ k, k < ops.size → listed.getD k false = true → ∀ e ∈ (ops.toList.map onsOf).getD k [], listed.getD e false = true) →
      Mid G π own ((vs.map (·.dst)).zip rs) base ops.size t0 σ0 a0 E0 w0 (fun i => listed.getD i false) E w a → wpAny P .any ops Q fuel listed a w := by
  have hvl : vs.length = ops.size := by have := mapM_some_len hvs; simpa using this
  generalize hL : (vs.map (·.dst)).zip rs = L at *
  have hLl : L.length = ops.size := by rw [← hL]; simp [hrl, hvl]
  have hLget : ∀ (k : Nat) (d : Option Nat) (r : Res), L[k]? = some (d, r) ↔ ∃ o : VOper, vs[k]? = some o ∧ o.dst = d ∧ rs[k]? = some r := by
    intro k d r
    rw [← hL, List.getElem?_zip_eq_some]
    simp only [List.getElem?_map, Option.map_eq_some_iff]
    constructor
    · rintro ⟨⟨o, h1, h2⟩, h3⟩; exact ⟨o, h1, h2, h3⟩
    · rintro ⟨o, h1, h2, h3⟩; exact ⟨⟨o, h1, h2⟩, h3⟩
  generalize hons : ops.toList.map onsOf = ons at *
  have honl : ons.length = ops.size := by rw [← hons]; simp
  unfold orderOk at hord
  simp only [Bool.and_eq_true, List.all_eq_true] at hord
  obtain ⟨⟨_, hlt⟩, hclash⟩ := hord
  have hlt' : ∀ j, j < ops.size → ∀ e ∈ ons.getD j [], e < j := by
    intro j hj e he
    have := hlt j (List.mem_range.2 (by rw [hvl]; exact hj)) e he
    simpa using this
  have hcl : ∀ (i j : Nat) (a b : VOper), i < j → vs[i]? = some a → vs[j]? = some b → clash a b = true → ((masks ons []).getD j 0).testBit i = true := by
    intro i j a b hij ha hb hc
    have hj : j < vs.length := (List.getElem?_eq_some_iff.1 hb).1
    have := hclash (i, j) (mem_allPairs hij hj)
    simp only [ha, hb, hc, Bool.not_true, Bool.false_or] at this
    exact this
  have hfree : ∀ (i j : Nat) (a b : VOper), i < j → vs[i]? = some a → vs[j]? = some b → a.op.pure = false → b.op.pure = false → (a.op.isLoad && b.op.isLoad) = false → ((masks ons []).getD j 0).testBit i = false → ∀ (x y : Res), rs[i]? = some x → rs[j]? = some y → apart x y := by
    intro i j a b hij ha hb hpa hpb hll hm x y hx hy
    have hj : j < vs.length := (List.getElem?_eq_some_iff.1 hb).1
    refine hap (i, j) ?_ x y hx hy
    unfold freePairs
    rw [List.mem_filter]
    exact ⟨mem_allPairs hij hj, by simp only [ha, hb, hpa, hpb, hll, hm]; rfl⟩
  -- an operation that touches a block is not pure
  have touch : ∀ (k : Nat) (o : VOper) (r : Res), vs[k]? = some o → rs[k]? = some r → (r.rd ≠ [] ∨ r.up ≠ []) → o.op.pure = false := by
    intro k o r ho hr hne
    cases hp : o.op.pure with
    | false => rfl
    | true =>
      rcases hst k o r ho hr with ⟨_, rfl⟩ | ⟨_, hs⟩
      · simp at hne
      · obtain ⟨h1, h2⟩ := pure_spec hp hs
        simp [h1, h2] at hne
  have noLoad : ∀ (k : Nat) (o : VOper) (r : Res), vs[k]? = some o → rs[k]? = some r → r.up ≠ [] → o.op.isLoad = false := by
    intro k o r ho hr hne
    cases hp : o.op.isLoad with
    | false => rfl
    | true =>
      rcases hst k o r ho hr with ⟨_, rfl⟩ | ⟨_, hs⟩
      · simp at hne
      · exact absurd (load_spec hp hs) hne
  intro fuel
  induction fuel with
  | zero =>
    intro listed a E w hls hcnt hdc hm
    have hall : ∀ i, i < ops.size → listed.getD i false = true := by
      intro i hi
      have := countP_all (X := fun i => listed.getD i false) (List.range ops.size) (by simpa using hcnt) i (List.mem_range.2 hi)
      exact this
    refine ⟨?_, hQ a E w ?_⟩
    · apply List.eq_nil_iff_forall_not_mem.2
      intro j hj
      obtain ⟨h1, o, h2, _⟩ := mem_ready.1 hj
      have hjl : j < ops.size := (Array.getElem?_eq_some_iff.1 h2).1
      have := hall j hjl
      rw [Array.getD_eq_getD_getElem?] at h1 this
      cases hh : listed[j]? with
      | none => simp [hh] at this
      | some b => simp [hh] at h1 this; simp [h1] at this
    · have e1 : foldT (fun i => listed.getD i false) L 0 t0 = foldT (fun _ => true) L 0 t0 := foldT_ext L 0 t0 (fun k hk => by rw [Nat.zero_add]; exact hall k (by omega))
      have e2 : foldS (fun i => listed.getD i false) L 0 σ0 = foldS (fun _ => true) L 0 σ0 := foldS_ext L 0 σ0 (fun k hk => by rw [Nat.zero_add]; exact hall k (by omega))
      exact ⟨e1 ▸ hm.frame, e2 ▸ hm.inv, hm.adv, by simp, hm.more, hm.defers⟩
  | succ fuel ih =>
    intro listed a E w hls hcnt hdc hm
    have getd : ∀ i, i < ops.size → listed.getD i true = listed.getD i false := by
      intro i hi
      rw [Array.getD_eq_getD_getElem?, Array.getD_eq_getD_getElem?, Array.getElem?_eq_getElem (by omega)]
      rfl
    have onsAt : ∀ (j : Nat) (o : Oper), ops[j]? = some o → ons.getD j [] = onsOf o := by
      intro j o ho
      rw [← hons]
      have hj : j < ops.size := (Array.getElem?_eq_some_iff.1 ho).1
      have he : ops[j] = o := (Array.getElem?_eq_some_iff.1 ho).2
      simp [List.getD, hj, he]
    refine ⟨?_, ?_⟩
    · -- nothing is ready: all is done
      intro hnone
      have hall : ∀ i, i < ops.size → listed.getD i false = true := by
        intro i
        induction i using Nat.strongRecOn with
        | _ i ihi =>
          intro hi
          cases hh : listed.getD i false with
          | true => rfl
          | false =>
            exfalso
            have hin : i ∈ Region.ready .any ops listed := by
              refine mem_ready.2 ⟨(getd i hi).trans hh, ops[i], by simp [hi], ?_⟩
              intro e he hb
              have hmem : e.on ∈ ons.getD i [] := by
                rw [onsAt i ops[i] (by simp [hi])]
                unfold onsOf
                exact List.mem_map.2 ⟨e, List.mem_filter.2 ⟨by simpa using he, hb⟩, rfl⟩
              have := hlt' i hi e.on hmem
              exact ihi e.on this (by omega)
            rw [hnone] at hin
            simp at hin
      have e1 : foldT (fun i => listed.getD i false) L 0 t0 = foldT (fun _ => true) L 0 t0 := foldT_ext L 0 t0 (fun k hk => by rw [Nat.zero_add]; exact hall k (by omega))
      have e2 : foldS (fun i => listed.getD i false) L 0 σ0 = foldS (fun _ => true) L 0 σ0 := foldS_ext L 0 σ0 (fun k hk => by rw [Nat.zero_add]; exact hall k (by omega))
      exact hQ a E w ⟨e1 ▸ hm.frame, e2 ▸ hm.inv, hm.adv, by simp, hm.more, hm.defers⟩
    · intro j hj
      obtain ⟨h1, o, ho, hedge⟩ := mem_ready.1 hj
      have hjn : j < ops.size := (Array.getElem?_eq_some_iff.1 ho).1
      have hXj : listed.getD j false = false := (getd j hjn).symm.trans h1
      generalize hX : (fun i => listed.getD i false) = X at *
      have hXd : ∀ i, listed.getD i false = X i := fun i => by rw [← hX]
      simp only [hXd] at hdc hXj
      have hone : ∀ e ∈ ons.getD j [], X e = true := by
        intro e he
        rw [onsAt j o ho] at he
        unfold onsOf at he
        obtain ⟨ed, hed, rfl⟩ := List.mem_map.1 he
        obtain ⟨h3, h4⟩ := List.mem_filter.1 hed
        rw [← hXd]
        exact hedge ed (by simpa using h3) h4
      have pre : ∀ i, ((masks ons []).getD j 0).testBit i = true → X i = true := mask_closed hlt' hdc j hjn hone
      have post : ∀ k, k < ops.size → X k = true → ((masks ons []).getD k 0).testBit j = false := by
        intro k hk hxk
        cases hb : ((masks ons []).getD k 0).testBit j with
        | false => rfl
        | true => have := mask_closed hlt' hdc k hk (hdc k hk hxk) j hb; simp [hXj] at this
      -- the operation
      have hvo : ∃ vo, vs[j]? = some vo ∧ cOper P ops o = some vo := by
        have hjv : j < vs.length := by omega
        obtain ⟨o', h3, h4⟩ := mapM_some_get hvs j vs[j] (by simp [hjv])
        have : o' = o := by
          have h5 : ops.toList[j]? = some o := by simpa using ho
          rw [h5] at h3; simpa using h3.symm
        subst this
        exact ⟨vs[j], by simp [hjv], h4⟩
      obtain ⟨vo, hvoj, hvo⟩ := hvo
      obtain ⟨hop, hdst⟩ := cOper_op hvo
      have hrj : j < rs.length := by omega
      obtain ⟨r, hr⟩ : ∃ r, rs[j]? = some r := ⟨rs[j], by simp [hrj]⟩
      have hsc := hst j vo r hvoj hr
      rw [Nat.zero_add] at hsc
      -- a slot that it names
      have slot : ∀ s ∈ vo.names, (foldT X L 0 t0)[s]? = (foldT (fun m => m < j) L 0 t0)[s]? := by
        intro s hs
        refine foldT_congr L 0 t0 t0 rfl ?_
        intro k d r' hk hne hds
        rw [Nat.zero_add] at hne
        obtain ⟨ok, h3, h4, h5⟩ := (hLget k d r').1 hk
        subst hds
        have hkn : k < ops.size := by have := (List.getElem?_eq_some_iff.1 h3).1; omega
        rcases Nat.lt_trichotomy k j with hlt2 | rfl | hgt
        · have hxk : X k = false := by
            cases hh : X k with
            | false => rfl
            | true => simp [hh, hlt2] at hne
          have hc : clash ok vo = true := by unfold clash; simp [h4, hs]
          have := pre k (hcl k j ok vo hlt2 h3 hvoj hc)
          simp [hxk] at this
        · simp [hXj] at hne
        · have hxk : X k = true := by
            cases hh : X k with
            | true => rfl
            | false => simp [hh, Nat.not_lt.2 (Nat.le_of_lt hgt)] at hne
          have hc : clash vo ok = true := by unfold clash; simp [h4, hs]
          have := hcl j k vo ok hgt hvoj h3 hc
          rw [post k hkn hxk] at this
          simp at this
      have hmap : vo.op.map (VArg.ev G (foldT X L 0 t0)) = vo.op.map (VArg.ev G (foldT (fun m => m < j) L 0 t0)) := by
        refine VOp.map_congr _ fun x hx => ev_congr x fun s hs => slot s ?_
        unfold VOper.names
        exact List.mem_append_left _ (List.mem_filterMap.2 ⟨x, hx, hs⟩)
      have hwant : vwanted (foldT X L 0 t0) vo.guard = vwanted (foldT (fun m => m < j) L 0 t0) vo.guard := by
        cases hg : vo.guard with
        | none => rfl
        | some q =>
          obtain ⟨s, want⟩ := q
          have := slot s (by unfold VOper.names; simp [hg])
          simp only [vwanted, this]
      have hrd : ∀ id ∈ r.rd, foldS X L 0 σ0 id = foldS (fun m => m < j) L 0 σ0 id := by
        intro id hid
        refine foldS_congr L 0 σ0 σ0 rfl ?_
        intro k d r' hk hne hin
        rw [Nat.zero_add] at hne
        obtain ⟨ok, h3, h4, h5⟩ := (hLget k d r').1 hk
        have hkn : k < ops.size := by have := (List.getElem?_eq_some_iff.1 h3).1; omega
        have hpk : ok.op.pure = false := touch k ok r' h3 h5 (.inr (by intro e; simp [e] at hin))
        have hpj : vo.op.pure = false := touch j vo r hvoj hr (.inl (by intro e; simp [e] at hid))
        have hlk : ok.op.isLoad = false := noLoad k ok r' h3 h5 (by intro e; simp [e] at hin)
        obtain ⟨x, hx, rfl⟩ := List.mem_map.1 hin
        rcases Nat.lt_trichotomy k j with hlt2 | rfl | hgt
        · have hxk : X k = false := by
            cases hh : X k with
            | false => rfl
            | true => simp [hh, hlt2] at hne
          have hb : ((masks ons []).getD j 0).testBit k = false := by
            cases hb : ((masks ons []).getD j 0).testBit k with
            | false => rfl
            | true => have := pre k hb; simp [hxk] at this
          exact ((hfree k j ok vo hlt2 h3 hvoj hpk hpj (by simp [hlk]) hb r' r h5 hr).1 x hx).1 hid
        · simp [hXj] at hne
        · have hxk : X k = true := by
            cases hh : X k with
            | true => rfl
            | false => simp [hh, Nat.not_lt.2 (Nat.le_of_lt hgt)] at hne
          exact (hfree j k vo ok hgt hvoj h3 hpj hpk (by simp [hlk]) (post k hkn hxk) r r' hr h5).2 x hx hid
      -- behind it
      generalize hX' : (fun i => if i = j then true else X i) = X' at *
      have hXe : ∀ i, X' i = if i = j then true else X i := fun i => by rw [← hX']
      have later : ∀ (k : Nat) (d : Option Nat) (r' : Res), L[k]? = some (d, r') → j < k → X' k = true → ∃ ok : VOper, vs[k]? = some ok ∧ ok.dst = d ∧ rs[k]? = some r' ∧ k < ops.size ∧ X k = true := by
        intro k d r' hk hlt2 hxk
        obtain ⟨ok, h3, h4, h5⟩ := (hLget k d r').1 hk
        refine ⟨ok, h3, h4, h5, by have := (List.getElem?_eq_some_iff.1 h3).1; omega, ?_⟩
        rw [hXe] at hxk
        simpa [show k ≠ j from by omega] using hxk
      have hLj : L[j]? = some (vo.dst, r) := (hLget j _ _).2 ⟨vo, hvoj, rfl, hr⟩
      have tEq : putT (foldT X L 0 t0) vo.dst r.val = foldT X' L 0 t0 := by
        apply List.ext_getElem?
        intro s
        rw [putT_get]
        by_cases hd : vo.dst = some s
        · rw [if_pos hd]
          rw [foldT_last L 0 j t0 (by rw [hLj, hd]) (by rw [Nat.zero_add, hXe]; simp) ?_, foldT_len]
          intro k d r' hk hlt2 hxk hds
          rw [Nat.zero_add] at hxk
          obtain ⟨ok, h3, h4, h5, hkn, hxk'⟩ := later k d r' hk hlt2 hxk
          have hc : clash vo ok = true := by unfold clash; simp [hd, h4, hds]
          have := hcl j k vo ok hlt2 hvoj h3 hc
          rw [post k hkn hxk'] at this
          simp at this
        · rw [if_neg hd]
          refine foldT_congr L 0 t0 t0 rfl ?_
          intro k d r' hk hne
          rw [Nat.zero_add, hXe] at hne
          have hkj : k = j := by
            apply Classical.byContradiction; intro h; simp [h] at hne
          subst hkj
          rw [hLj] at hk
          simp only [Option.some.injEq, Prod.mk.injEq] at hk
          rw [← hk.1]; exact hd
      have sEq : (foldS X L 0 σ0).app r.up = foldS X' L 0 σ0 := by
        funext id
        by_cases hin : id ∈ r.up.map (·.1)
        · symm
          refine foldS_last L 0 j σ0 hLj (by rw [Nat.zero_add, hXe]; simp) hin ?_
          intro k d r' hk hlt2 hxk hin'
          rw [Nat.zero_add] at hxk
          obtain ⟨ok, h3, h4, h5, hkn, hxk'⟩ := later k d r' hk hlt2 hxk
          have hpk : ok.op.pure = false := touch k ok r' h3 h5 (.inr (by intro e; simp [e] at hin'))
          have hpj : vo.op.pure = false := touch j vo r hvoj hr (.inr (by intro e; simp [e] at hin))
          have hlj : vo.op.isLoad = false := noLoad j vo r hvoj hr (by intro e; simp [e] at hin)
          obtain ⟨x, hx, rfl⟩ := List.mem_map.1 hin
          exact ((hfree j k vo ok hlt2 hvoj h3 hpj hpk (by simp [hlj]) (post k hkn hxk') r r' hr h5).1 x hx).2 hin'
        · rw [Store.app_other hin]
          refine foldS_congr L 0 σ0 σ0 rfl ?_
          intro k d r' hk hne
          rw [Nat.zero_add, hXe] at hne
          have hkj : k = j := by
            apply Classical.byContradiction; intro h; simp [h] at hne
          subst hkj
          rw [hLj] at hk
          simp only [Option.some.injEq, Prod.mk.injEq] at hk
          rw [← hk.2]; exact hin
      -- going on
      have hXl : ∀ i, (listed.setIfInBounds j true).getD i false = X' i := by
        intro i
        rw [hXe]
        by_cases e : i = j
        · subst e
          rw [Array.getD_eq_getD_getElem?]
          simp [hls, hjn]
        · rw [if_neg e, getD_set_ne false (fun h => e h.symm), hXd]
      have go : ∀ (a' : Act) (E' : Env) (w' : World), FrameRep E' w' (foldT X' L 0 t0) a' → Inv G own E' w' (foldS X' L 0 σ0) → AdvP own π E E' w w' → (∀ i : Id, ¬ ((base + j) :: π) <:+ i → E'.μ i = E.μ i) → a'.defers = a.defers →
          wpAny P .any ops Q fuel (listed.setIfInBounds j true) a' w' := by
        intro a' E' w' hf' hi' had hids hde
        have hfn : (fun i => (listed.setIfInBounds j true).getD i false) = X' := funext hXl
        refine ih _ a' E' w' (by simpa using hls) ?_ ?_ ?_
        · rw [hfn]
          have := countP_lt (X := X) (Y := X') (i := j) hXj (by rw [hXe]; simp) (fun k hk => by rw [hXe]; split <;> simp [hk]) (List.range ops.size) (List.mem_range.2 hjn)
          omega
        · intro k hk hxk e he
          rw [hXl] at hxk ⊢
          rw [hXe] at hxk ⊢
          split
          · rfl
          · by_cases hkj : k = j
            · subst hkj; exact hone e he
            · rw [if_neg hkj] at hxk
              exact hdc k hk hxk e he
        · rw [hfn]
          refine ⟨hf', hi', hm.adv.trans had, ?_, ?_, hde.trans hm.defers⟩
          · intro i hi hxi j'
            rw [hXe] at hxi
            have hij : i ≠ j := by rintro rfl; simp at hxi
            rw [if_neg hij] at hxi
            intro hj'
            rw [hids _ (under_ne hj' (by omega))]
            exact hm.free i hi hxi j' hj'
          · intro j' hj' hq
            rw [hids _ (hq (base + j) (by omega))]
            exact hm.more j' hj' hq
      unfold wpOp
      rw [ho]
      simp only []
      rcases hsc with ⟨hw0, rfl⟩ | ⟨hw1, hsr⟩
      · rw [wanted_iff hvo hm.frame (hwant.trans hw0)]
        simp only [Bool.false_eq_true, if_false]
        refine go _ E w ?_ ?_ (AdvP.refl own π E w) (fun _ _ => rfl) (put_defers' _ _ _)
        · rw [← tEq, ← hdst]; exact undef_rep hm.frame _
        · rw [← sEq]; exact hm.inv
      · rw [wanted_iff hvo hm.frame (hwant.trans hw1)]
        simp only [if_true]
        left
        rw [← hmap] at hsr
        refine step_sound hm.inv (hm.free j hjn hXj) hm.frame hop (stepRel_congr hsr hrd) ?_
        intro v w' E' hp
        refine go _ E' w' ?_ ?_ hp.advP hp.ids (put_defers' _ _ _)
        · rw [← tEq, ← hdst]; exact hp.frame hm.frame _
        · rw [← sEq]; exact hp.inv
end
end Go.VL
end

section
namespace Go.VL
inductive VExit where
  | normal
  | exit (id : Nat)
  | ret
def VExit.real : VExit → Exit
  | .normal => .normal
  | .exit id => .exit id
  | .ret => .ret
structure VS where
  t : List AV
  σ : Store
  n : Nat
structure Matched (G : Nat → Option (List AV)) (π : Id) (own : Nat → Prop) (E : Env) (w : World) (s : VS) (a : Act) : Prop where
  frame : FrameRep E w s.t a
  inv : Inv G own E w s.σ
  free : Free E π s.n
  defers : a.defers = []
def Wk (G : Nat → Option (List AV)) (π : Id) (s s' : VS) : Prop := ∀ own E w a, Matched G π own E w s a → ∃ E', AdvP own π E E' w w ∧ Matched G π own E' w s' a
def VW (P : Program) (G : Nat → Option (List AV)) (π : Id) (vc : VCode) (Q : VExit → VS → Prop) (s : VS) : Prop :=
  ∀ c, cCode P c = some vc → ∀ own E w a (R : Exit → Act → World → Prop), Matched G π own E w s a →
    (∀ e s' E' w' a', Q e s' → AdvP own π E E' w w' → Matched G π own E' w' s' a' → R e.real a' w') → c.wp P R a w
section
variable {P : Program} {G : Nat → Option (List AV)} {π : Id} {Q : VExit → VS → Prop} {s : VS}
theorem Wk.refl (G : Nat → Option (List AV)) (π : Id) (s : VS) : Wk G π s s := fun own E w _ h => ⟨E, AdvP.refl own π E w, h⟩
theorem Wk.trans {s s' s'' : VS} (h : Wk G π s s') (k : Wk G π s' s'') : Wk G π s s'' := fun own E w a hm => by
  obtain ⟨E1, a1, m1⟩ := h own E w a hm
  obtain ⟨E2, a2, m2⟩ := k own E1 w a m1
  exact ⟨E2, a1.trans a2, m2⟩
theorem VW.wk {vc : VCode} {s' : VS} (h : Wk G π s s') (k : VW P G π vc Q s') : VW P G π vc Q s := by
  intro c hc own E w a R hm hR
  obtain ⟨E1, a1, m1⟩ := h own E w a hm
  exact k c hc own E1 w a R m1 fun e s2 E2 w2 a2 hq ad mm => hR e s2 E2 w2 a2 hq (a1.trans ad) mm
theorem VW.mono {vc : VCode} {Q' : VExit → VS → Prop} (h : VW P G π vc Q s) (hq : ∀ e s, Q e s → Q' e s) : VW P G π vc Q' s :=
  fun c hc own E w a R hm hR => h c hc own E w a R hm fun e s2 E2 w2 a2 hq2 => hR e s2 E2 w2 a2 (hq e s2 hq2)
theorem VW.skip (h : Q .normal s) : VW P G π .skip Q s := by
  intro c hc own E w a R hm hR
  cases c <;> simp only [cCode, Option.some.injEq, reduceCtorEq] at hc
  · exact wp_skip (hR .normal s E w a h (AdvP.refl own π E w) hm)
  · exfalso; revert hc; unfold cRegion; (repeat' split) <;> simp
  all_goals (exfalso; revert hc; (repeat' split) <;> simp)
theorem cCode_region {c : Code} {ps : Option (List (Nat × Nat))} {vs : List VOper} (hc : cCode P c = some (.reg ps vs)) : ∃ id ops draw, c = .region id ops draw ∧ ops.toList.mapM (cOper P ops) = some vs ∧
    ((draw = false ∧ ps = none) ∨ (draw = true ∧ ps = some (freePairs vs (ops.toList.map onsOf)) ∧ orderOk vs (ops.toList.map onsOf) = true ∧ P.follows .mixedOrders = true)) := by
  cases c with
  | region id ops draw =>
    simp only [cCode, cRegion] at hc
    cases hm : ops.toList.mapM (cOper P ops) with
    | none => simp [hm] at hc
    | some vs' =>
      simp only [hm] at hc
      split at hc
      · rename_i hd
        split at hc
        · rename_i ho
          simp only [Option.some.injEq, VCode.reg.injEq] at hc
          obtain ⟨rfl, rfl⟩ := hc
          simp only [Bool.and_eq_true] at ho
          exact ⟨id, ops, draw, rfl, hm, .inr ⟨hd, rfl, ho.1, ho.2⟩⟩
        · simp at hc
      · rename_i hd
        simp only [Option.some.injEq, VCode.reg.injEq] at hc
        obtain ⟨rfl, rfl⟩ := hc
        exact ⟨id, ops, draw, rfl, hm, .inl ⟨by simpa using hd, rfl⟩⟩
  | _ => exfalso; revert hc; simp only [cCode]; (repeat' split) <;> simp
theorem VW.seqReg {vs : List VOper} (h : vseq P G π s.n (fun t σ => Q .normal ⟨t, σ, s.n + vs.length⟩) vs 0 s.t s.σ) : VW P G π (.reg none vs) Q s := by
  intro c hc own E w a R hm hR
  obtain ⟨id, ops, draw, rfl, hvs, hor⟩ := cCode_region hc
  have hd : draw = false := by
    rcases hor with ⟨h, _⟩ | ⟨_, h, _⟩
    · exact h
    · simp at h
  subst hd
  have hl : ops.toList.length = vs.length := (mapM_some_len hvs).symm
  refine wp_region ?_
  have := vseq_sound (P := P) (G := G) (own := own) (ops := ops) (Q := R) ops.toList 0 (fun k => by simp) vs hvs s.t s.σ a E w h hm.frame hm.inv hm.free (by
    intro t' σ' a' E' w' hk had hf hi hfr hde
    refine hR .normal ⟨t', σ', s.n + vs.length⟩ E' w' a' hk had ⟨hf, hi, by have h := hfr; simp only [Nat.add_zero, hl] at h; exact h, hde.trans hm.defers⟩)
  rw [List.range_eq_range']
  simpa using this
theorem VW.parReg {ps : List (Nat × Nat)} {vs : List VOper} (h : vpar P G π s.n (fun rs t σ => allApart rs ps ∧ Q .normal ⟨t, σ, s.n + vs.length⟩) vs 0 [] s.t s.σ) : VW P G π (.reg (some ps) vs) Q s := by
  intro c hc own E w a R hm hR
  obtain ⟨id, ops, draw, rfl, hvs, hor⟩ := cCode_region hc
  rcases hor with ⟨_, h2⟩ | ⟨hd, hps, hord, hmx⟩
  · simp at h2
  · subst hd
    simp only [Option.some.injEq] at hps
    have hl : vs.length = ops.size := by have := mapM_some_len hvs; simpa using this
    obtain ⟨rs, hrl, hst, hap, hq⟩ := vpar_spec h
    refine wp_region_any hmx ?_
    have hmid : Mid G π own ((vs.map (·.dst)).zip rs) s.n ops.size s.t s.σ a E w (fun i => (Array.replicate ops.size false).getD i false) E w.drew a := by
      have hX : ∀ i, (Array.replicate ops.size false).getD i false = false := by intro i; rw [Array.getD_eq_getD_getElem?]; simp [Array.getElem?_replicate]; split <;> rfl
      have e1 : foldT (fun i => (Array.replicate ops.size false).getD i false) ((vs.map (·.dst)).zip rs) 0 s.t = s.t := foldT_of_none _ _ _ fun k _ => hX _
      have e2 : foldS (fun i => (Array.replicate ops.size false).getD i false) ((vs.map (·.dst)).zip rs) 0 s.σ = s.σ := foldS_of_none _ _ _ fun k _ => hX _
      exact ⟨by rw [e1]; exact hm.frame.keep (Adv.drew (own := own) E w).step, by rw [e2]; exact hm.inv.drew, ⟨Adv.drew E w, fun _ _ => rfl⟩, fun i _ _ j hj => hm.free.at (by omega) hj, hm.free.mono (by omega), rfl⟩
    refine par_sound hvs hord hrl hst (by rw [← hps]; simpa using hap) (Q := R) (a0 := a) (E0 := E) (w0 := w) ?_ ops.size (Array.replicate ops.size false) a E w.drew (by simp) (by simp) ?_ hmid
    · intro a' E' w' hmd
      refine hR .normal _ E' w' a' hq hmd.adv ⟨hmd.frame, hmd.inv, by rw [hl]; exact hmd.more, hmd.defers.trans hm.defers⟩
    · intro k hk hx
      rw [Array.getD_eq_getD_getElem?] at hx
      simp [hk] at hx
theorem VW.seq {x y : VCode} (h : VW P G π x (fun e s' => match e with | .normal => VW P G π y Q s' | e => Q e s') s) : VW P G π (.seq x y) Q s := by
  intro c hc own E w a R hm hR
  cases c <;> simp only [cCode, Option.some.injEq, reduceCtorEq] at hc
  case seq ca cb =>
    cases h1 : cCode P ca with
    | none => simp [h1] at hc
    | some va =>
    cases h2 : cCode P cb with
    | none => simp [h1, h2] at hc
    | some vb =>
      simp only [h1, h2, Option.some.injEq, VCode.seq.injEq] at hc
      obtain ⟨rfl, rfl⟩ := hc
      refine wp_seq (h ca h1 own E w a _ hm ?_)
      intro e s' E' w' a' hq had hm'
      cases e with
      | normal => exact hq cb h2 own E' w' a' R hm' fun e2 s2 E2 w2 a2 hq2 ad2 mm2 => hR e2 s2 E2 w2 a2 hq2 (had.trans ad2) mm2
      | exit id => exact hR (.exit id) s' E' w' a' hq had hm'
      | ret => exact hR .ret s' E' w' a' hq had hm'
  case region => exfalso; revert hc; unfold cRegion; (repeat' split) <;> simp
  all_goals (exfalso; revert hc; (repeat' split) <;> simp)
theorem VW.cond {vc : VArg} {x y : VCode} {b : Bool} (hb : vc.ev G s.t = .bool b) (h : if b then VW P G π x Q s else VW P G π y Q s) : VW P G π (.cond vc x y) Q s := by
  intro c hc own E w a R hm hR
  cases c <;> simp only [cCode, Option.some.injEq, reduceCtorEq] at hc
  case cond cc ca cb =>
    cases h0 : cArg cc with
    | none => simp [h0] at hc
    | some vcc =>
    cases h1 : cCode P ca with
    | none => simp [h0, h1] at hc
    | some va =>
    cases h2 : cCode P cb with
    | none => simp [h0, h1, h2] at hc
    | some vb =>
      simp only [h0, h1, h2, Option.some.injEq, VCode.cond.injEq] at hc
      obtain ⟨rfl, rfl, rfl⟩ := hc
      have hr := cArg_rep hm.frame hm.inv h0
      rw [hb] at hr
      simp only [Rep] at hr
      refine wp_cond hr ?_
      cases b with
      | true => simp only [if_true] at h ⊢; exact h ca h1 own E w a R hm hR
      | false => simp only [Bool.false_eq_true, if_false] at h ⊢; exact h cb h2 own E w a R hm hR
  case region => exfalso; revert hc; unfold cRegion; (repeat' split) <;> simp
  all_goals (exfalso; revert hc; (repeat' split) <;> simp)
theorem VW.condAny {vc : VArg} {x y : VCode} (hb : vc.ev G s.t = .anyb) (h1 : VW P G π x Q s) (h2 : VW P G π y Q s) : VW P G π (.cond vc x y) Q s := by
  intro c hc own E w a R hm hR
  cases c <;> simp only [cCode, Option.some.injEq, reduceCtorEq] at hc
  case cond cc ca cb =>
    cases h0 : cArg cc with
    | none => simp [h0] at hc
    | some vcc =>
    cases h3 : cCode P ca with
    | none => simp [h0, h3] at hc
    | some va =>
    cases h4 : cCode P cb with
    | none => simp [h0, h3, h4] at hc
    | some vb =>
      simp only [h0, h3, h4, Option.some.injEq, VCode.cond.injEq] at hc
      obtain ⟨rfl, rfl, rfl⟩ := hc
      have hr := cArg_rep hm.frame hm.inv h0
      rw [hb] at hr
      simp only [Rep] at hr
      obtain ⟨b, hr⟩ := hr
      refine wp_cond hr ?_
      cases b with
      | true => exact h1 ca h3 own E w a R hm hR
      | false => exact h2 cb h4 own E w a R hm hR
  case region => exfalso; revert hc; unfold cRegion; (repeat' split) <;> simp
  all_goals (exfalso; revert hc; (repeat' split) <;> simp)
theorem VW.block {id : Nat} {x : VCode} (h : VW P G π x (fun e s' => match e with | .exit i => if i = id then Q .normal s' else Q (.exit i) s' | e => Q e s') s) : VW P G π (.block id x) Q s := by
  intro c hc own E w a R hm hR
  cases c <;> simp only [cCode, Option.some.injEq, reduceCtorEq] at hc
  case block i cb =>
    cases h1 : cCode P cb with
    | none => simp [h1] at hc
    | some vb =>
      simp only [h1, Option.map_some, Option.some.injEq, VCode.block.injEq] at hc
      obtain ⟨rfl, rfl⟩ := hc
      refine wp_block (h cb h1 own E w a _ hm ?_)
      intro e s' E' w' a' hq had hm'
      cases e with
      | normal => exact hR .normal s' E' w' a' hq had hm'
      | exit j =>
        simp only [VExit.real, Exit.inBlock]
        split
        · rename_i hj; simp only [hj, if_true] at hq; exact hR .normal s' E' w' a' hq had hm'
        · rename_i hj; simp only [hj, if_false] at hq; exact hR (.exit j) s' E' w' a' hq had hm'
      | ret => exact hR .ret s' E' w' a' hq had hm'
  case region => exfalso; revert hc; unfold cRegion; (repeat' split) <;> simp
  all_goals (exfalso; revert hc; (repeat' split) <;> simp)
theorem VW.exit {id : Nat} (h : Q (.exit id) s) : VW P G π (.exit id) Q s := by
  intro c hc own E w a R hm hR
  cases c <;> simp only [cCode, Option.some.injEq, reduceCtorEq] at hc
  case exit i =>
    simp only [VCode.exit.injEq] at hc; subst hc
    exact wp_exit (hR (.exit i) s E w a h (AdvP.refl own π E w) hm)
  case region => exfalso; revert hc; unfold cRegion; (repeat' split) <;> simp
  all_goals (exfalso; revert hc; (repeat' split) <;> simp)
theorem VW.ret (h : Q .ret s) : VW P G π .ret Q s := by
  intro c hc own E w a R hm hR
  cases c <;> simp only [cCode, Option.some.injEq, reduceCtorEq] at hc
  case ret => exact wp_ret (hR .ret s E w a h (AdvP.refl own π E w) hm)
  case region => exfalso; revert hc; unfold cRegion; (repeat' split) <;> simp
  all_goals (exfalso; revert hc; (repeat' split) <;> simp)
theorem wp_loop_rel {α : Type} {c : Code} {R : Exit → Act → World → Prop} (I : α → Act → World → Prop) (μ : α → Nat) {x : α} {a : Act} {w : World} (h₀ : I x a w)
    (round : ∀ x a w, I x a w → c.wp P (Exit.then (fun a' w' => ∃ x', I x' a' w' ∧ μ x' < μ x) R) a w) : (Code.loop c).wp P R a w := by
  intro b k cs
  have key : ∀ n x a w, μ x = n → I x a w →
      ∃ e a' w', R e a' w' ∧ Arrives P (lone (b.at a (.code c :: .inLoop c :: k)) cs w) b k cs e a' w' := by
    intro n
    induction n using Nat.strongRecOn with
    | _ n ih =>
      intro x a w hn hI
      obtain ⟨e, a₁, w₁, hq, harr⟩ := round x a w hI b (.inLoop c :: k) cs
      cases e with
      | normal =>
        obtain ⟨x₁, hI₁, hlt⟩ := hq
        obtain ⟨e₂, a₂, w₂, hq₂, harr₂⟩ := ih (μ x₁) (hn ▸ hlt) x₁ a₁ w₁ rfl hI₁
        exact ⟨e₂, a₂, w₂, hq₂, .of_steps (Steps.trans harr (.one step_inLoop)) harr₂⟩
      | exit id => exact ⟨_, a₁, w₁, hq, .pass (x := .inLoop c) rfl (fun _ _ => .inl (by simp)) harr⟩
      | goto l => exact ⟨_, a₁, w₁, hq, .pass (x := .inLoop c) rfl (fun _ _ => .inl (by simp)) harr⟩
      | ret => exact ⟨_, a₁, w₁, hq, .pass (x := .inLoop c) rfl (fun _ _ => .inl (by simp)) harr⟩
      | panic ch => exact ⟨_, a₁, w₁, hq, .pass (x := .inLoop c) rfl (fun _ _ => .inl (by simp)) harr⟩
      | outgrown => exact ⟨_, a₁, w₁, hq, .pass (x := .inLoop c) rfl (fun _ _ => .inl (by simp)) harr⟩
  obtain ⟨e, a', w', hq, harr⟩ := key _ x a w rfl h₀
  exact ⟨e, a', w', hq, .of_steps (.one step_loop) harr⟩
theorem VW.loop {x : VCode} (I : VS → Prop) (m : VS → Nat) (h0 : ∃ s', Wk G π s s' ∧ I s')
    (h : ∀ s, I s → VW P G π x (fun e s' => match e with | .normal => ∃ s'', Wk G π s' s'' ∧ I s'' ∧ m s'' < m s | e => Q e s') s) : VW P G π (.loop x) Q s := by
  obtain ⟨s1, hw1, hI1⟩ := h0
  refine VW.wk hw1 ?_
  intro c hc own E w a R hm hR
  cases c <;> simp only [cCode, Option.some.injEq, reduceCtorEq] at hc
  case loop cb =>
    cases h1 : cCode P cb with
    | none => simp [h1] at hc
    | some vb =>
      simp only [h1, Option.map_some, Option.some.injEq, VCode.loop.injEq] at hc
      subst hc
      refine wp_loop_rel (α := VS) (fun s' a' w' => I s' ∧ ∃ E', AdvP own π E E' w w' ∧ Matched G π own E' w' s' a') m (x := s1) ⟨hI1, E, AdvP.refl own π E w, hm⟩ ?_
      rintro s2 a2 w2 ⟨hI2, E2, ad2, hm2⟩
      refine h s2 hI2 cb h1 own E2 w2 a2 _ hm2 ?_
      intro e s' E' w' a' hq had hm'
      cases e with
      | normal =>
        obtain ⟨s3, hw3, hI3, hlt⟩ := hq
        obtain ⟨E3, ad3, hm3⟩ := hw3 own E' w' a' hm'
        exact ⟨s3, ⟨hI3, E3, (ad2.trans had).trans ad3, hm3⟩, hlt⟩
      | exit id => exact hR (.exit id) s' E' w' a' hq (ad2.trans had) hm'
      | ret => exact hR .ret s' E' w' a' hq (ad2.trans had) hm'
  case region => exfalso; revert hc; unfold cRegion; (repeat' split) <;> simp
  all_goals (exfalso; revert hc; (repeat' split) <;> simp)
def Then (k : VS → Prop) (Q : VExit → VS → Prop) : VExit → VS → Prop
  | .normal, s => k s
  | .exit i, s => Q (.exit i) s
  | .ret, s => Q .ret s
def Blkd (id : Nat) (Q : VExit → VS → Prop) : VExit → VS → Prop
  | .normal, s => Q .normal s
  | .exit i, s => if i = id then Q .normal s else Q (.exit i) s
  | .ret, s => Q .ret s
theorem then_normal (k : VS → Prop) (Q : VExit → VS → Prop) (s : VS) : Then k Q .normal s = k s := (rfl)
theorem then_exit (k : VS → Prop) (Q : VExit → VS → Prop) (i : Nat) (s : VS) : Then k Q (.exit i) s = Q (.exit i) s := (rfl)
theorem then_ret (k : VS → Prop) (Q : VExit → VS → Prop) (s : VS) : Then k Q .ret s = Q .ret s := (rfl)
theorem blkd_normal (id : Nat) (Q : VExit → VS → Prop) (s : VS) : Blkd id Q .normal s = Q .normal s := (rfl)
theorem blkd_exit (id : Nat) (Q : VExit → VS → Prop) (i : Nat) (s : VS) : Blkd id Q (.exit i) s = if i = id then Q .normal s else Q (.exit i) s := (rfl)
theorem blkd_ret (id : Nat) (Q : VExit → VS → Prop) (s : VS) : Blkd id Q .ret s = Q .ret s := (rfl)
def vwp (P : Program) (G : Nat → Option (List AV)) (π : Id) : VCode → (VExit → VS → Prop) → VS → Prop
  | .skip, Q, s => Q .normal s
  | .reg none vs, Q, s => vseq P G π s.n (fun t σ => Q .normal ⟨t, σ, s.n + vs.length⟩) vs 0 s.t s.σ
  | .reg (some ps) vs, Q, s => vpar P G π s.n (fun rs t σ => allApart rs ps ∧ Q .normal ⟨t, σ, s.n + vs.length⟩) vs 0 [] s.t s.σ
  | .seq x y, Q, s => vwp P G π x (Then (vwp P G π y Q) Q) s
  | .cond c x y, Q, s => match c.ev G s.t with
    | .bool b => if b then vwp P G π x Q s else vwp P G π y Q s
    | .anyb => vwp P G π x Q s ∧ vwp P G π y Q s
    | _ => False
  | .block id x, Q, s => vwp P G π x (Blkd id Q) s
  | .loop x, Q, s => VW P G π (.loop x) Q s
  | .exit id, Q, s => Q (.exit id) s
  | .ret, Q, s => Q .ret s
theorem VW.of : ∀ {vc : VCode} {Q : VExit → VS → Prop} {s : VS}, vwp P G π vc Q s → VW P G π vc Q s
  | .skip, _, _, h => VW.skip h
  | .reg none _, _, _, h => VW.seqReg h
  | .reg (some _) _, _, _, h => VW.parReg h
  | .seq x y, Q, s, h => by
    refine VW.seq (VW.mono (VW.of (vc := x) h) ?_)
    intro e s' hq
    cases e with
    | normal => exact VW.of (vc := y) hq
    | exit id => exact hq
    | ret => exact hq
  | .cond c x y, Q, s, h => by
    simp only [vwp] at h
    split at h
    · rename_i b hb
      refine VW.cond hb ?_
      cases b with
      | true => exact VW.of (vc := x) h
      | false => exact VW.of (vc := y) h
    · rename_i hb
      exact VW.condAny hb (VW.of (vc := x) h.1) (VW.of (vc := y) h.2)
    · exact h.elim
  | .block id x, Q, s, h => by
    refine VW.block (VW.mono (VW.of (vc := x) h) ?_)
    intro e s' hq
    cases e with
    | normal => exact hq
    | exit i => exact hq
    | ret => exact hq
  | .loop x, Q, s, h => h
  | .exit id, _, _, h => VW.exit h
  | .ret, _, _, h => VW.ret h
end
end Go.VL
end

section
namespace Go.VL
section
variable {P : Program} {G : Nat → Option (List AV)} {own : Nat → Prop} {E : Env} {w : World} {σ : Store}
def PureAV (c : AV) : Prop := ∀ E w v, Rep E w c v → Rep E.bare w c v
theorem PureAV.bool (b : Bool) : PureAV (.bool b) := fun _ _ _ h => by simpa [Rep] using h
theorem PureAV.int (k : IntKind) (n : Int) : PureAV (.int k n) := fun _ _ _ h => by simpa [Rep] using h
theorem PureAV.str (l : List UInt8) : PureAV (.str l) := fun _ _ _ h => by simpa [Rep] using h
theorem PureAV.nilp : PureAV .nilp := fun _ _ _ h => by simpa [Rep] using h
theorem PureAV.nilf : PureAV .nilf := fun _ _ _ h => by simpa [Rep] using h
theorem PureAV.nils : PureAV .nils := fun _ _ _ h => by simpa [Rep] using h
theorem PureAV.repL {cs : List AV} (h : ∀ c ∈ cs, PureAV c) : ∀ {vs : List Value}, RepL E w cs vs → RepL E.bare w cs vs := by
  induction cs with
  | nil => intro vs hr; simpa [RepL] using hr
  | cons c cs ih =>
    intro vs hr
    simp only [RepL] at hr ⊢
    obtain ⟨v, rest, e, h1, h2⟩ := hr
    exact ⟨v, rest, e, h c (by simp) _ _ _ h1, ih (fun x hx => h x (by simp [hx])) h2⟩
theorem PureAV.repAt {cs : List AV} (h : ∀ c ∈ cs, PureAV c) {b o : Nat} (hr : RepAt E w b o cs) : RepAt E.bare w b o cs :=
  fun j c hj => let ⟨v, hv, hrv⟩ := hr j c hj; ⟨v, hv, h c (List.mem_of_getElem? hj) _ _ _ hrv⟩
theorem PureAV.agg {cs : List AV} (h : ∀ c ∈ cs, PureAV c) : PureAV (.agg cs) := fun E w v hr => by
  simp only [Rep] at hr ⊢; obtain ⟨xs, e, hr⟩ := hr; exact ⟨xs, e, PureAV.repL h hr⟩
theorem PureAV.tup {cs : List AV} (h : ∀ c ∈ cs, PureAV c) : PureAV (.tup cs) := fun E w v hr => by
  simp only [Rep] at hr ⊢; obtain ⟨xs, e, hr⟩ := hr; exact ⟨xs, e, PureAV.repL h hr⟩
theorem PureAV.fn {f : Fn} {a c : List AV} (ha : ∀ x ∈ a, PureAV x) (hc : ∀ x ∈ c, PureAV x) : PureAV (.fn f a c) := fun E w v hr => by
  simp only [Rep] at hr ⊢; obtain ⟨xs, ys, e, h1, h2⟩ := hr; exact ⟨xs, ys, e, PureAV.repL ha h1, PureAV.repL hc h2⟩
theorem PureAV.sl {k : Nat} {es : List AV} (h : ∀ c ∈ flat es, PureAV c) : PureAV (.sl k es) := fun E w v hr => by
  simp only [Rep] at hr ⊢
  obtain ⟨a, cap, e, h1, h2, h3, h4⟩ := hr
  exact ⟨a, cap, e, h1, h2, h3, h4.imp id fun ⟨b, o, ea, hb, hr⟩ => ⟨b, o, ea, hb, repRow_iff.2 (PureAV.repAt h (repRow_iff.1 hr))⟩⟩
theorem PureAV.tsl {k : Nat} {es : List AV} (h : ∀ c ∈ flat es, PureAV c) : PureAV (.tsl k es) := fun E w v hr => by
  simp only [Rep] at hr ⊢
  obtain ⟨a, e, h2, h3, h4⟩ := hr
  exact ⟨a, e, h2, h3, h4.imp id fun ⟨b, o, ea, hb, hr⟩ => ⟨b, o, ea, hb, repRow_iff.2 (PureAV.repAt h (repRow_iff.1 hr))⟩⟩
theorem PureAV.ep {cs : List AV} {o : Nat} (h : ∀ c ∈ cs, PureAV c) : PureAV (.ep cs o) := fun E w v hr => by
  simp only [Rep] at hr ⊢
  obtain ⟨b, q, e, hb, hr⟩ := hr
  exact ⟨b, q, e, hb, repCells_iff.2 (PureAV.repAt h (repCells_iff.1 hr))⟩
def FlatAV (c : AV) : Prop := ∀ E w E' w' v, Rep E w c v → Rep E' w' c v
theorem FlatAV.bool (b : Bool) : FlatAV (.bool b) := fun _ _ _ _ _ h => by simpa [Rep] using h
theorem FlatAV.int (k : IntKind) (n : Int) : FlatAV (.int k n) := fun _ _ _ _ _ h => by simpa [Rep] using h
theorem FlatAV.str (l : List UInt8) : FlatAV (.str l) := fun _ _ _ _ _ h => by simpa [Rep] using h
theorem FlatAV.repL {cs : List AV} (h : ∀ c ∈ cs, FlatAV c) {E E' : Env} {w w' : World} : ∀ {vs : List Value}, RepL E w cs vs → RepL E' w' cs vs := by
  induction cs with
  | nil => intro vs hr; simpa [RepL] using hr
  | cons c cs ih =>
    intro vs hr
    simp only [RepL] at hr ⊢
    obtain ⟨v, rest, e, h1, h2⟩ := hr
    exact ⟨v, rest, e, h c (by simp) _ _ _ _ _ h1, ih (fun x hx => h x (by simp [hx])) h2⟩
theorem FlatAV.tup {cs : List AV} (h : ∀ c ∈ cs, FlatAV c) : FlatAV (.tup cs) := fun _ _ _ _ _ hr => by
  simp only [Rep] at hr ⊢; obtain ⟨xs, e, hr⟩ := hr; exact ⟨xs, e, FlatAV.repL h hr⟩
theorem FlatAV.agg {cs : List AV} (h : ∀ c ∈ cs, FlatAV c) : FlatAV (.agg cs) := fun _ _ _ _ _ hr => by
  simp only [Rep] at hr ⊢; obtain ⟨xs, e, hr⟩ := hr; exact ⟨xs, e, FlatAV.repL h hr⟩
def Env.froze (E : Env) (σ : Store) : Env := ⟨fun _ => none, fun b => E.ok b ∨ ∃ id bk k N, σ id = some bk ∧ E.μ id = some (b, k, N)⟩
def View (σ : Store) (c d : AV) : Prop := ∀ G own E w v, Inv G own E w σ → Rep E w c v → Rep (E.froze σ) w d v
def ViewL (σ : Store) (cs ds : List AV) : Prop := cs.length = ds.length ∧ ∀ (j : Nat) (c d : AV), cs[j]? = some c → ds[j]? = some d → View σ c d
theorem Step.froze (E : Env) (σ : Store) (w : World) : Step E.bare (E.froze σ) w w := ⟨fun _ _ h => by simp [Env.bare] at h, fun _ h => .inl h, fun _ _ => rfl⟩
theorem View.pure {c : AV} (h : PureAV c) : View σ c c := fun _ _ E w v _ hr => Rep.keep (Step.froze E σ w) c v (h E w v hr)
theorem ViewL.pure {cs : List AV} (h : ∀ c ∈ cs, PureAV c) : ViewL σ cs cs :=
  ⟨rfl, fun j c d hc hd => by rw [hc] at hd; simp only [Option.some.injEq] at hd; subst hd; exact View.pure (h c (List.mem_of_getElem? hc))⟩
theorem ViewL.nil : ViewL σ [] [] := ⟨rfl, by simp⟩
theorem ViewL.cons {c d : AV} {cs ds : List AV} (h : View σ c d) (hl : ViewL σ cs ds) : ViewL σ (c :: cs) (d :: ds) :=
  ⟨by simp [hl.1], fun j x y hx hy => by
    cases j with
    | zero => simp at hx hy; subst hx; subst hy; exact h
    | succ j => exact hl.2 j x y (by simpa using hx) (by simpa using hy)⟩
theorem ViewL.repL {cs ds : List AV} (h : ViewL σ cs ds) (hi : Inv G own E w σ) {vs : List Value} (hr : RepL E w cs vs) : RepL (E.froze σ) w ds vs := by
  obtain ⟨hl, hp⟩ := repL_iff.1 hr
  refine repL_iff.2 ⟨by rw [hl, h.1], fun j d hd => ?_⟩
  have hj : j < cs.length := by rw [h.1]; exact (List.getElem?_eq_some_iff.1 hd).1
  obtain ⟨v, hv, hrv⟩ := hp j cs[j] (by simp [hj])
  exact ⟨v, hv, h.2 j _ d (by simp [hj]) hd G own E w v hi hrv⟩
theorem ViewL.repAt {cs ds : List AV} (h : ViewL σ cs ds) (hi : Inv G own E w σ) {b o : Nat} (hr : RepAt E w b o cs) : RepAt (E.froze σ) w b o ds := by
  intro j d hd
  have hj : j < cs.length := by rw [h.1]; exact (List.getElem?_eq_some_iff.1 hd).1
  obtain ⟨v, hv, hrv⟩ := hr j cs[j] (by simp [hj])
  exact ⟨v, hv, h.2 j _ d (by simp [hj]) hd G own E w v hi hrv⟩
theorem View.agg {cs ds : List AV} (h : ViewL σ cs ds) : View σ (.agg cs) (.agg ds) := fun G own E w v hi hr => by
  simp only [Rep] at hr ⊢; obtain ⟨xs, e, hr⟩ := hr; exact ⟨xs, e, h.repL hi hr⟩
theorem View.tup {cs ds : List AV} (h : ViewL σ cs ds) : View σ (.tup cs) (.tup ds) := fun G own E w v hi hr => by
  simp only [Rep] at hr ⊢; obtain ⟨xs, e, hr⟩ := hr; exact ⟨xs, e, h.repL hi hr⟩
theorem View.nils (k : Nat) : View σ .nils (.sl k []) := fun G own E w v hi hr => by
  simp only [Rep] at hr ⊢; exact ⟨none, 0, hr, Nat.le_refl _, Nat.zero_le _, by simp, .inl trivial⟩
theorem View.tsl0 (k : Nat) : View σ (.tsl k []) (.sl k []) := fun G own E w v hi hr => by
  simp only [Rep] at hr ⊢
  obtain ⟨a, e, _⟩ := hr
  exact ⟨a, 0, e, Nat.le_refl _, Nat.zero_le _, by simp, .inl trivial⟩
theorem View.sl {k : Nat} {es ds : List AV} (h : ViewL σ (flat es) (flat ds)) (hl : es.length = ds.length) (hk : ∀ d ∈ ds, d.size = k) : View σ (.sl k es) (.sl k ds) := fun G own E w v hi hr => by
  simp only [Rep] at hr ⊢
  obtain ⟨a, cap, e, h1, h2, h3, h4⟩ := hr
  refine ⟨a, cap, by rw [← hl]; exact e, by rw [← hl]; exact h1, h2, hk, ?_⟩
  rcases h4 with h4 | ⟨b, o, ea, hb, hr⟩
  · left; subst h4; simpa using hl.symm
  · right; exact ⟨b, o, ea, .inl hb, repRow_iff.2 (h.repAt hi (repRow_iff.1 hr))⟩
theorem View.tsl {k : Nat} {es ds : List AV} (h : ViewL σ (flat es) (flat ds)) (hl : es.length = ds.length) (hk : ∀ d ∈ ds, d.size = k) : View σ (.tsl k es) (.sl k ds) := fun G own E w v hi hr => by
  simp only [Rep] at hr ⊢
  obtain ⟨a, e, h2, h3, h4⟩ := hr
  refine ⟨a, es.length, by rw [← hl]; exact e, by rw [← hl]; exact Nat.le_refl _, h2, hk, ?_⟩
  rcases h4 with h4 | ⟨b, o, ea, hb, hr⟩
  · left; subst h4; simpa using hl.symm
  · right; exact ⟨b, o, ea, .inl hb, repRow_iff.2 (h.repAt hi (repRow_iff.1 hr))⟩
theorem View.osl {id : Id} {bk : Blk} {k off len : Nat} {t : Bool} {ds : List AV} (hσ : σ id = some bk) (hk : bk.k = k) (hle : off + len ≤ bk.els.length)
    (h : ViewL σ (flat ((bk.els.drop off).take len)) (flat ds)) (hl : ds.length = len) (hkd : ∀ d ∈ ds, d.size = k) : View σ (.osl id k off len t) (.sl k ds) := fun G own E w v hi hr => by
  obtain ⟨g, N, cur, ty, hB⟩ := hi.blk id bk hσ
  simp only [Rep] at hr ⊢
  obtain ⟨g', N', cap, hm, e, h1, h2, h3, _⟩ := hr
  rw [hB.μ] at hm
  simp only [Option.some.injEq, Prod.mk.injEq] at hm
  obtain ⟨rfl, _, rfl⟩ := hm
  refine ⟨_, cap, by rw [hl]; exact e, by rw [hl]; exact h1, by omega, hkd, .inr ⟨g, off * k, rfl, .inr ⟨id, bk, bk.k, N, hσ, hB.μ⟩, ?_⟩⟩
  refine repRow_iff.2 (h.repAt hi ?_)
  have := repAt_sub (l := off) (r := off + len) hB.k hB.row (by omega) hle
  rw [Nat.zero_add, hk] at this
  have e2 : (bk.els.take (off + len)).drop off = (bk.els.drop off).take len := by rw [List.drop_take]; congr 1; omega
  rwa [e2] at this
def VP (P : Program) (G : Nat → Option (List AV)) (f : FuncId) (args : List AV) (r : AV) : Prop :=
  (∃ fn, P.funcs[f]? = some fn ∧ (fn.name == "runtime.NumGoroutine") = false ∧ fn.body.isSome = true) ∧
  ∀ w vs ok, Inv G (fun k => w.heap.size ≤ k) ⟨fun _ => none, ok⟩ w (fun _ => none) → RepL ⟨fun _ => none, ok⟩ w args vs →
    Calls P f vs.toArray w fun e w' => ∃ v ok', e = .returned v ∧ Adv (fun k => w.heap.size ≤ k) ⟨fun _ => none, ok⟩ ⟨fun _ => none, ok'⟩ w w' ∧ (∀ b, ok' b → b < w'.heap.size) ∧ Rep ⟨fun _ => none, ok'⟩ w' r v
theorem CallRel.of_VP {f : FuncId} {args : List AV} {r : AV} (h : VP P G f args r) (hp : ∀ c ∈ args, PureAV c) (p : Id) : CallRel P G f args p [] { val := r } := by
  refine ⟨h.1, fun own E w σ vs _ hi hr hμ => ?_⟩
  have hi0 : Inv G (fun k => w.heap.size ≤ k) ⟨fun _ => none, E.ok⟩ w (fun _ => none) := ⟨hi.okb, fun id bk h => by simp at h, fun i j x y h => absurd rfl h, hi.glob, fun k hk => hk⟩
  refine (h.2 w vs E.ok hi0 (PureAV.repL hp hr)).mono fun e w' he => ?_
  obtain ⟨v, ok', rfl, had, hok, hv⟩ := he
  have hadv : Adv own E ⟨E.μ, ok'⟩ w w' :=
    ⟨⟨fun _ _ h => h, had.step.ok, had.step.same⟩, had.os, had.tape, had.output, had.size, fun k hk _ => had.block k hk (by omega), fun b hb => (had.okn b hb).imp id fun h => hi.new b h⟩
  refine ⟨v, ⟨E.μ, ok'⟩, rfl, hadv, ?_, ?_, fun _ _ => rfl⟩
  · refine hi.keep hadv rfl hok fun id bk g N hs hm => ?_
    obtain ⟨g', N', cur, ty, hB⟩ := hi.blk id bk hs
    rw [hB.μ] at hm
    simp only [Option.some.injEq, Prod.mk.injEq] at hm
    obtain ⟨rfl, _, rfl⟩ := hm
    have hg := cells_lt hB.heap
    exact ⟨had.block _ hg (by omega), fun hf hb => (had.okn _ hb).elim (hB.no hf) (fun h => by omega)⟩
  · exact Rep.keep (⟨fun _ _ h => by simp at h, fun _ h => h, fun _ _ => rfl⟩ : Step ⟨fun _ => none, ok'⟩ ⟨E.μ, ok'⟩ w' w') r v hv
def resAV (s : VS) : VRes → Option AV
  | .tmp t => some (s.t.getD t (.tup []))
  | .cell x agg n => (vload s.σ agg n (s.t.getD x (.tup []))).map (·.val)
def outAV (rs : List VRes) (s : VS) : Option AV :=
  match rs.mapM (resAV s) with
  | some [v] => some v
  | some vs => some (.tup vs)
  | none => none
theorem mapM_run {α β : Type} {f : α → Sem β} : ∀ (l : List α) (vs : List β), vs.length = l.length → (∀ (i : Nat) (a : α) (v : β), l[i]? = some a → vs[i]? = some v → (f a).run P w = .ok v w) → (l.mapM f).run P w = .ok vs w
  | [], vs, hl, _ => by
    have : vs = [] := List.eq_nil_of_length_eq_zero hl
    subst this; rfl
  | a :: l, [], hl, _ => by simp at hl
  | a :: l, v :: vs, hl, h => by
    have h0 := h 0 a v rfl rfl
    have ih := mapM_run l vs (by simpa using hl) (fun i x y hx hy => h (i + 1) x y (by simpa using hx) (by simpa using hy))
    simp [List.mapM_cons, h0, ih]
theorem res_run {π : Id} {s : VS} {a : Act} (hm : Matched G π own E w s a) {rv : ResultVar} {vr : VRes} (hc : cRes P rv = some vr) {c : AV} (h : resAV s vr = some c) :
    ∃ v, (match rv with | .tmp t => (pure (a.tmps.getD t undef) : Sem Value) | .cell x t => do loadVar t (← asAddr (a.tmps.getD x undef))).run P w = .ok v w ∧ Rep E w c v := by
  cases rv with
  | tmp t =>
    simp only [cRes, Option.some.injEq] at hc; subst hc
    simp only [resAV, Option.some.injEq] at h; subst h
    exact ⟨_, rfl, hm.frame.get t⟩
  | cell x t =>
    simp only [cRes] at hc
    cases ha : isAggT P t with
    | none => simp [ha] at hc
    | some g =>
    cases hti : P.info? t with
    | none => simp [ha, hti] at hc
    | some i =>
      simp only [ha, hti] at hc
      split at hc
      · simp only [Option.some.injEq] at hc; subst hc
        simp only [resAV, Option.map_eq_some_iff] at h
        obtain ⟨r, hr, rfl⟩ := h
        obtain ⟨⟨v, h1, h2⟩, _, ad, had⟩ := vload_run hm.inv ha hti (hm.frame.get x) hr
        refine ⟨v, ?_, h2⟩
        simp only []
        rw [had] at h1 ⊢
        simpa [Instr.loadAt, Instr.sureAddr, asAddr] using h1
      · simp at hc
theorem results_run {π : Id} {s : VS} {a : Act} (hm : Matched G π own E w s a) {fn : Func} {rs : List VRes} (hc : fn.results.toList.mapM (cRes P) = some rs) {c : AV} (h : outAV rs s = some c) :
    ∃ v, (results fn a.tmps).run P w = .ok v w ∧ Rep E w c v := by
  unfold outAV at h
  cases hcs : rs.mapM (resAV s) with
  | none => simp [hcs] at h
  | some cs =>
    have hlen : cs.length = fn.results.toList.length := by rw [mapM_some_len hcs, mapM_some_len hc]
    let F : ResultVar → Sem Value := fun rv => match rv with | .tmp t => (pure (a.tmps.getD t undef) : Sem Value) | .cell x t => do loadVar t (← asAddr (a.tmps.getD x undef))
    have hex : ∀ j, j < cs.length → ∃ v, (∀ rv, fn.results.toList[j]? = some rv → (F rv).run P w = .ok v w) ∧ ∀ c, cs[j]? = some c → Rep E w c v := by
      intro j hj
      obtain ⟨vr, h1, h2⟩ := mapM_some_get hcs j cs[j] (by simp [hj])
      obtain ⟨rv, h3, h4⟩ := mapM_some_get hc j vr h1
      obtain ⟨v, h5, h6⟩ := res_run hm h4 h2
      refine ⟨v, fun rv' hrv => ?_, fun c hc => ?_⟩
      · rw [h3] at hrv; simp only [Option.some.injEq] at hrv; subst hrv; exact h5
      · simp only [hj, List.getElem?_eq_getElem, Option.some.injEq] at hc; subst hc; exact h6
    let val : Nat → Value := fun j => if hj : j < cs.length then Classical.choose (hex j hj) else undef
    have hval : ∀ j (hj : j < cs.length), (∀ rv, fn.results.toList[j]? = some rv → (F rv).run P w = .ok (val j) w) ∧ ∀ c, cs[j]? = some c → Rep E w c (val j) := by
      intro j hj
      simp only [val, hj, dif_pos]
      exact Classical.choose_spec (hex j hj)
    let vs : List Value := (List.range cs.length).map val
    have hvl : vs.length = cs.length := by simp [vs]
    have hrun : (fn.results.toList.mapM F).run P w = .ok vs w := by
      refine mapM_run _ vs (by rw [hvl, hlen]) fun i rv v hrv hv => ?_
      have hi : i < cs.length := by have := (List.getElem?_eq_some_iff.1 hv).1; omega
      have : v = val i := by simp [vs, hi] at hv; exact hv.symm
      subst this
      exact (hval i hi).1 rv hrv
    have hrep : RepL E w cs vs := repL_iff.2 ⟨hvl, fun j c hj => by
      have hjl := (List.getElem?_eq_some_iff.1 hj).1
      exact ⟨val j, by simp [vs, hjl], (hval j hjl).2 c hj⟩⟩
    have hres : (results fn a.tmps).run P w = (pure (if h : vs.toArray.size = 1 then vs.toArray[0] else .tuple vs.toArray) : Sem Value).run P w := by
      unfold results
      rw [Array.mapM_eq_mapM_toList]
      simp only [Sem.run_bind, Sem.run_map]
      exact congrArg (fun x : Result (List Value) => (x.andThen fun b w' => Result.ok b.toArray w').andThen fun b w' => Sem.run P (pure (if h : b.size = 1 then b[0] else Value.tuple b)) w') hrun
    rw [hres]
    refine ⟨_, rfl, ?_⟩
    simp only [hcs] at h
    split at h
    · rename_i c0 heq
      simp only [Option.some.injEq] at heq h
      subst h
      have hs1 : vs.toArray.size = 1 := by simp [hvl, heq]
      rw [dif_pos hs1]
      rw [heq] at hrep
      simp only [RepL] at hrep
      obtain ⟨v, rest, hv, h1, rfl⟩ := hrep
      simpa [hv] using h1
    · rename_i cs' hne heq
      simp only [Option.some.injEq] at heq h
      subst h; subst heq
      have hs1 : ¬ vs.toArray.size = 1 := by
        intro e
        simp [hvl] at e
        obtain ⟨x, hx⟩ := List.length_eq_one_iff.1 e
        exact hne x (by rw [hx])
      rw [dif_neg hs1]
      simp only [Rep]
      exact ⟨_, rfl, by simpa using hrep⟩
    · simp at *
theorem VP.of_vw {f : FuncId} {fn : Func} {vf : VFunc} (hf : P.funcs[f]? = some fn) (hc : cFunc P fn = some vf) {args : List AV} {r : AV}
    (h : VW P G [] vf.body (fun e s' => (e = .normal ∨ e = .ret) ∧ ∃ r0, outAV vf.results s' = some r0 ∧ View s'.σ r0 r) ⟨args ++ List.replicate (vf.nt - args.length) (.tup []), fun _ => none, 0⟩) : VP P G f args r := by
  unfold cFunc at hc
  split at hc
  · simp at hc
  · rename_i hname
    split at hc
    · rename_i c rs hb hrs
      simp only [Option.map_eq_some_iff] at hc
      obtain ⟨vb, hvb, rfl⟩ := hc
      refine ⟨⟨fn, hf, by simpa using hname, by simp [hb]⟩, fun w vs ok hi hr => ?_⟩
      refine calls_of_wp hf hb ?_
      have hal : vs.length = args.length := RepL.len hr
      have hm : Matched G [] (fun k => w.heap.size ≤ k) ⟨fun _ => none, ok⟩ w ⟨args ++ List.replicate (fn.ntmps - args.length) (.tup []), fun _ => none, 0⟩
          { tmps := vs.toArray ++ Array.replicate (fn.ntmps - vs.toArray.size) undef, defers := [] } := by
        refine ⟨?_, hi, fun _ _ _ => rfl, rfl⟩
        show RepL _ w _ _
        simp only [Array.toList_append, Array.toList_replicate, List.size_toArray, hal]
        refine RepL.append hr (repL_iff.2 ⟨by simp, fun j c hj => ?_⟩)
        have hjl : j < fn.ntmps - args.length := by have := (List.getElem?_eq_some_iff.1 hj).1; simpa using this
        simp only [List.getElem?_replicate, hjl, if_true, Option.some.injEq] at hj ⊢
        subst hj
        exact ⟨undef, rfl, by simp only [Rep, undef]; exact ⟨#[], rfl, by simp [RepL]⟩⟩
      refine h c hvb _ _ w _ _ hm ?_
      intro e s' E' w' a' hq had hm'
      obtain ⟨he, r0, hr0, hview⟩ := hq
      obtain ⟨v, hv1, hv2⟩ := results_run hm' hrs hr0
      have fin : ∃ v, (results fn a'.tmps).run P w' = .ok v w' ∧ ∃ v' ok', Ending.returned v = .returned v' ∧ Adv (fun k => w.heap.size ≤ k) ⟨fun _ => none, ok⟩ ⟨fun _ => none, ok'⟩ w w' ∧ (∀ b, ok' b → b < w'.heap.size) ∧ Rep ⟨fun _ => none, ok'⟩ w' r v' := by
        refine ⟨v, hv1, v, (E'.froze s'.σ).ok, rfl, ?_, ?_, ?_⟩
        · refine ⟨⟨fun _ _ h => by simp at h, fun b hb => .inl (had.step.ok b hb), had.step.same⟩, had.os, had.tape, had.output, had.size, had.block, ?_⟩
          rintro b (hb | ⟨id, bk, k, N, hs, hmu⟩)
          · exact had.okn b hb
          · obtain ⟨g, N', cur, ty, hB⟩ := hm'.inv.blk id bk hs
            rw [hB.μ] at hmu
            simp only [Option.some.injEq, Prod.mk.injEq] at hmu
            right; rw [← hmu.1]; exact hB.own
        · rintro b (hb | ⟨id, bk, k, N, hs, hmu⟩)
          · exact hm'.inv.okb b hb
          · obtain ⟨g, N', cur, ty, hB⟩ := hm'.inv.blk id bk hs
            rw [hB.μ] at hmu
            simp only [Option.some.injEq, Prod.mk.injEq] at hmu
            rw [← hmu.1]; exact cells_lt hB.heap
        · exact hview G _ E' w' v hm'.inv hv2
      rcases he with rfl | rfl
      · exact ⟨hm'.defers, fin⟩
      · exact ⟨hm'.defers, fin⟩
    · simp at hc
end
end Go.VL
end

section
namespace Go.VL
section
variable {P : Program} {G : Nat → Option (List AV)} {π : Id} {Q : VExit → VS → Prop} {s : VS}
def Fg : List AV → List AV → Prop
  | [], [] => True
  | c :: cs, d :: ds => (d = .top ∨ d = c) ∧ Fg cs ds
  | _, _ => False
theorem Fg.rep {E : Env} {w : World} : ∀ {cs ds : List AV} {vs : List Value}, Fg cs ds → RepL E w cs vs → RepL E w ds vs
  | [], [], _, _, h => h
  | c :: cs, d :: ds, vs, hf, h => by
    simp only [Fg] at hf
    simp only [RepL] at h ⊢
    obtain ⟨v, rest, e, h1, h2⟩ := h
    refine ⟨v, rest, e, ?_, Fg.rep hf.2 h2⟩
    rcases hf.1 with rfl | rfl
    · simp [Rep]
    · exact h1
  | [], _ :: _, _, h, _ => by simp [Fg] at h
  | _ :: _, [], _, h, _ => by simp [Fg] at h
theorem Wk.forget {t t' : List AV} {σ σ' : Store} {n n' : Nat} (ht : Fg t t') (hs : ∀ id, σ' id = none ∨ σ' id = σ id) (hn : n ≤ n') : Wk G π ⟨t, σ, n⟩ ⟨t', σ', n'⟩ :=
  fun own E w _ hm => ⟨E, AdvP.refl own π E w, ht.rep hm.frame, hm.inv.sub hs, hm.free.mono hn, hm.defers⟩
theorem Wk.slots {t t' : List AV} {σ : Store} {n n' : Nat} (ht : Fg t t') (hn : n ≤ n') : Wk G π ⟨t, σ, n⟩ ⟨t', σ, n'⟩ := Wk.forget ht (fun _ => .inr rfl) hn
def VRd (P : Program) (G : Nat → Option (List AV)) (π : Id) (x : VCode) (Q : VExit → VS → Prop) : Nat → VS → Prop
  | 0, _ => False
  | n + 1, s => VW P G π x (Then (VRd P G π x Q n) Q) s
theorem VW.rounds {x : VCode} (n : Nat) (h : VRd P G π x Q n s) : VW P G π (.loop x) Q s := by
  intro c hc own E w a R hm hR
  cases c <;> simp only [cCode, Option.some.injEq, reduceCtorEq] at hc
  case loop cb =>
    cases h1 : cCode P cb with
    | none => simp [h1] at hc
    | some vb =>
      simp only [h1, Option.map_some, Option.some.injEq, VCode.loop.injEq] at hc
      subst hc
      refine wp_loop_rounds n ?_
      have key : ∀ n s E2 w2 a2, VRd P G π vb Q n s → AdvP own π E E2 w w2 → Matched G π own E2 w2 s a2 → Code.rounds P cb R n a2 w2 := by
        intro n
        induction n with
        | zero => intro s E2 w2 a2 h _ _; exact h.elim
        | succ n ih =>
          intro s E2 w2 a2 h ad hm
          refine h cb h1 own E2 w2 a2 _ hm ?_
          intro e s' E' w' a' hq had hm'
          cases e with
          | normal => exact ih s' E' w' a' hq (ad.trans had) hm'
          | exit id => exact hR (.exit id) s' E' w' a' hq (ad.trans had) hm'
          | ret => exact hR .ret s' E' w' a' hq (ad.trans had) hm'
      exact key n s E w a h (AdvP.refl own π E w) hm
  case region => exfalso; revert hc; unfold cRegion; (repeat' split) <;> simp
  all_goals (exfalso; revert hc; (repeat' split) <;> simp)
end
end Go.VL
end

section
namespace Go.VL
def VOp.isCall {α : Type} : VOp α → Bool
  | .call _ _ => true
  | _ => false
def vexec (G : Nat → Option (List AV)) (σ : Store) (p : Id) (d : Option Nat) (op : VOp VArg) (g : Option (Nat × Bool)) (t : List AV) : Option (List AV × Res × Store) :=
  match vwanted t g with
  | none => none
  | some false => some (putT t d (.tup []), { val := .tup [] }, σ)
  | some true => match vop σ p (op.map (VArg.ev G t)) with
    | some r => some (putT t d r.val, r, σ.app r.up)
    | none => none
section
variable (P : Program) (G : Nat → Option (List AV)) (π : Id)
def vs (base : Nat) (Q : VExit → VS → Prop) (n : Nat) (os : List VOper) (i : Nat) (t : List AV) (σ : Store) : Prop :=
  vseq P G π base (fun t σ => Q .normal ⟨t, σ, n⟩) os i t σ
def vd (base : Nat) (Q : VExit → VS → Prop) (n : Nat) (ps : List (Nat × Nat)) (os : List VOper) (i : Nat) (acc : List Res) (t : List AV) (σ : Store) : Prop :=
  vpar P G π base (fun rs t σ => allApart rs ps ∧ Q .normal ⟨t, σ, n⟩) os i acc t σ
def vsAft (base : Nat) (Q : VExit → VS → Prop) (n : Nat) (os : List VOper) (i : Nat) : Option (List AV × Res × Store) → Prop
  | some (t, _, σ) => vs P G π base Q n os i t σ
  | none => False
def vdAft (base : Nat) (Q : VExit → VS → Prop) (n : Nat) (ps : List (Nat × Nat)) (os : List VOper) (i : Nat) (acc : List Res) : Option (List AV × Res × Store) → Prop
  | some (t, r, σ) => vd P G π base Q n ps os i (r :: acc) t σ
  | none => False
def vsCall (base : Nat) (Q : VExit → VS → Prop) (n : Nat) (d : Option Nat) (os : List VOper) (i : Nat) (t : List AV) (σ : Store) (f : FuncId) (args : List AV) : Prop :=
  ∃ S r, CallRel P G f args ((base + i) :: π) S r ∧ (∀ x ∈ S, σ x.1 = some x.2) ∧ (∀ x ∈ S, x.1 ∈ r.rd) ∧ vs P G π base Q n os (i + 1) (putT t d r.val) (σ.app r.up)
def vdCall (base : Nat) (Q : VExit → VS → Prop) (n : Nat) (ps : List (Nat × Nat)) (d : Option Nat) (os : List VOper) (i : Nat) (acc : List Res) (t : List AV) (σ : Store) (f : FuncId) (args : List AV) : Prop :=
  ∃ S r, CallRel P G f args ((base + i) :: π) S r ∧ (∀ x ∈ S, σ x.1 = some x.2) ∧ (∀ x ∈ S, x.1 ∈ r.rd) ∧ vd P G π base Q n ps os (i + 1) (r :: acc) (putT t d r.val) (σ.app r.up)
def vsAsk (base : Nat) (Q : VExit → VS → Prop) (n : Nat) (d : Option Nat) (os : List VOper) (i : Nat) (t : List AV) (σ : Store) : Option Bool → AV → List AV → Prop
  | some true, .fn (.func f) first cap, l => vsCall P G π base Q n d os i t σ f (first ++ l ++ cap)
  | some false, _, _ => vs P G π base Q n os (i + 1) (putT t d (.tup [])) σ
  | _, _, _ => False
def vdAsk (base : Nat) (Q : VExit → VS → Prop) (n : Nat) (ps : List (Nat × Nat)) (d : Option Nat) (os : List VOper) (i : Nat) (acc : List Res) (t : List AV) (σ : Store) : Option Bool → AV → List AV → Prop
  | some true, .fn (.func f) first cap, l => vdCall P G π base Q n ps d os i acc t σ f (first ++ l ++ cap)
  | some false, _, _ => vd P G π base Q n ps os (i + 1) ({ val := .tup [] } :: acc) (putT t d (.tup [])) σ
  | _, _, _ => False
variable {P} {G} {π}
variable {base : Nat} {Q : VExit → VS → Prop} {n : Nat} {ps : List (Nat × Nat)} {d : Option Nat} {g : Option (Nat × Bool)} {os : List VOper} {i : Nat} {acc : List Res} {t : List AV} {σ : Store}
theorem vs_nil : vs P G π base Q n [] i t σ = Q .normal ⟨t, σ, n⟩ := (rfl)
theorem vd_nil : vd P G π base Q n ps [] i acc t σ = (allApart acc.reverse ps ∧ Q .normal ⟨t, σ, n⟩) := (rfl)
theorem vstep_op {σ : Store} {p : Id} {op : VOp AV} {K : Res → Prop} (h : op.isCall = false) : vstep P G σ p op K = (match vop σ p op with | some r => K r | none => False) := by
  cases op <;> first | rfl | simp [VOp.isCall] at h
theorem map_isCall {op : VOp VArg} {f : VArg → AV} : (op.map f).isCall = op.isCall := by cases op <;> rfl
theorem vs_op {op : VOp VArg} (h : op.isCall = false) : vs P G π base Q n (⟨d, op, g⟩ :: os) i t σ = vsAft P G π base Q n os (i + 1) (vexec G σ ((base + i) :: π) d op g t) := by
  unfold vs
  simp only [vseq, vexec]
  cases hw : vwanted t g with
  | none => rfl
  | some b =>
    cases b with
    | false => rfl
    | true =>
      simp only []
      rw [vstep_op (by rw [map_isCall]; exact h)]
      cases vop σ ((base + i) :: π) (op.map (VArg.ev G t)) <;> rfl
theorem vd_op {op : VOp VArg} (h : op.isCall = false) : vd P G π base Q n ps (⟨d, op, g⟩ :: os) i acc t σ = vdAft P G π base Q n ps os (i + 1) acc (vexec G σ ((base + i) :: π) d op g t) := by
  unfold vd
  simp only [vpar, vexec]
  cases hw : vwanted t g with
  | none => rfl
  | some b =>
    cases b with
    | false => rfl
    | true =>
      simp only []
      rw [vstep_op (by rw [map_isCall]; exact h)]
      cases vop σ ((base + i) :: π) (op.map (VArg.ev G t)) <;> rfl
theorem vs_call {f : VArg} {l : List VArg} : vs P G π base Q n (⟨d, .call f l, g⟩ :: os) i t σ = vsAsk P G π base Q n d os i t σ (vwanted t g) (f.ev G t) (l.map (VArg.ev G t)) := by
  unfold vs vsAsk
  simp only [vseq]
  cases hw : vwanted t g with
  | none => rfl
  | some b =>
    cases b with
    | false => rfl
    | true =>
      simp only [VOp.map, vstep]
      cases hf : f.ev G t <;> try rfl
      rename_i fn a c
      cases fn <;> rfl
theorem vd_call {f : VArg} {l : List VArg} : vd P G π base Q n ps (⟨d, .call f l, g⟩ :: os) i acc t σ = vdAsk P G π base Q n ps d os i acc t σ (vwanted t g) (f.ev G t) (l.map (VArg.ev G t)) := by
  unfold vd vdAsk
  simp only [vpar]
  cases hw : vwanted t g with
  | none => rfl
  | some b =>
    cases b with
    | false => rfl
    | true =>
      simp only [VOp.map, vstep]
      cases hf : f.ev G t <;> try rfl
      rename_i fn a c
      cases fn <;> rfl
theorem vsAsk_call {f : FuncId} {first cap l : List AV} : vsAsk P G π base Q n d os i t σ (some true) (.fn (.func f) first cap) l = vsCall P G π base Q n d os i t σ f (first ++ l ++ cap) := (rfl)
theorem vdAsk_call {f : FuncId} {first cap l : List AV} : vdAsk P G π base Q n ps d os i acc t σ (some true) (.fn (.func f) first cap) l = vdCall P G π base Q n ps d os i acc t σ f (first ++ l ++ cap) := (rfl)
theorem vsCall_VP {f : FuncId} {args : List AV} {r : AV} (h : VP P G f args r) (hp : ∀ c ∈ args, PureAV c) (k : vs P G π base Q n os (i + 1) (putT t d r) σ) : vsCall P G π base Q n d os i t σ f args :=
  ⟨[], { val := r }, CallRel.of_VP h hp _, by simp, by simp, k⟩
theorem vdCall_VP {f : FuncId} {args : List AV} {r : AV} (h : VP P G f args r) (hp : ∀ c ∈ args, PureAV c) (k : vd P G π base Q n ps os (i + 1) ({ val := r } :: acc) (putT t d r) σ) : vdCall P G π base Q n ps d os i acc t σ f args :=
  ⟨[], { val := r }, CallRel.of_VP h hp _, by simp, by simp, k⟩
def vcond (P : Program) (G : Nat → Option (List AV)) (π : Id) (x y : VCode) (Q : VExit → VS → Prop) (s : VS) : AV → Prop
  | .bool b => if b then vwp P G π x Q s else vwp P G π y Q s
  | .anyb => vwp P G π x Q s ∧ vwp P G π y Q s
  | _ => False
theorem vcond_true {x y : VCode} {s : VS} : vcond P G π x y Q s (.bool true) = vwp P G π x Q s := (rfl)
theorem vcond_false {x y : VCode} {s : VS} : vcond P G π x y Q s (.bool false) = vwp P G π y Q s := (rfl)
theorem vcond_any {x y : VCode} {s : VS} : vcond P G π x y Q s .anyb = (vwp P G π x Q s ∧ vwp P G π y Q s) := (rfl)
theorem vwp_skip {s : VS} : vwp P G π .skip Q s = Q .normal s := (rfl)
theorem vwp_seqReg {os : List VOper} {n : Nat} : vwp P G π (.reg none os) Q ⟨t, σ, n⟩ = vs P G π n Q (n + os.length) os 0 t σ := (rfl)
theorem vwp_parReg {os : List VOper} {n : Nat} : vwp P G π (.reg (some ps) os) Q ⟨t, σ, n⟩ = vd P G π n Q (n + os.length) ps os 0 [] t σ := (rfl)
theorem vwp_seq {x y : VCode} {s : VS} : vwp P G π (.seq x y) Q s = vwp P G π x (Then (vwp P G π y Q) Q) s := (rfl)
theorem vwp_cond {c : VArg} {x y : VCode} {n : Nat} : vwp P G π (.cond c x y) Q ⟨t, σ, n⟩ = vcond P G π x y Q ⟨t, σ, n⟩ (c.ev G t) := by
  simp only [vwp, vcond] <;> cases c.ev G t <;> rfl
theorem vwp_block {id : Nat} {x : VCode} {s : VS} : vwp P G π (.block id x) Q s = vwp P G π x (Blkd id Q) s := (rfl)
theorem vwp_loop {x : VCode} {s : VS} : vwp P G π (.loop x) Q s = VW P G π (.loop x) Q s := (rfl)
theorem vwp_exit {id : Nat} {s : VS} : vwp P G π (.exit id) Q s = Q (.exit id) s := (rfl)
theorem vwp_ret {s : VS} : vwp P G π .ret Q s = Q .ret s := (rfl)
def RetQ (rs : List VRes) (r : AV) (e : VExit) (s : VS) : Prop := (e = .normal ∨ e = .ret) ∧ ∃ r0, outAV rs s = some r0 ∧ View s.σ r0 r
theorem retQ_ret {rs : List VRes} {r : AV} {s : VS} : RetQ rs r .ret s = ∃ r0, outAV rs s = some r0 ∧ View s.σ r0 r := by simp [RetQ]
theorem retQ_normal {rs : List VRes} {r : AV} {s : VS} : RetQ rs r .normal s = ∃ r0, outAV rs s = some r0 ∧ View s.σ r0 r := by simp [RetQ]
def LoopQ {α : Type} (G : Nat → Option (List AV)) (π : Id) (st : α → VS) (Pr : α → Prop) (m : α → Nat) (a : α) (Q : VExit → VS → Prop) : VExit → VS → Prop
  | .normal, s' => ∃ a', Pr a' ∧ m a' < m a ∧ Wk G π s' (st a')
  | .exit i, s' => Q (.exit i) s'
  | .ret, s' => Q .ret s'
theorem loopQ_normal {α : Type} {st : α → VS} {Pr : α → Prop} {m : α → Nat} {a : α} {s' : VS} : LoopQ G π st Pr m a Q .normal s' = ∃ a', Pr a' ∧ m a' < m a ∧ Wk G π s' (st a') := (rfl)
theorem loopQ_exit {α : Type} {st : α → VS} {Pr : α → Prop} {m : α → Nat} {a : α} {s' : VS} {j : Nat} : LoopQ G π st Pr m a Q (.exit j) s' = Q (.exit j) s' := (rfl)
theorem loopQ_ret {α : Type} {st : α → VS} {Pr : α → Prop} {m : α → Nat} {a : α} {s' : VS} : LoopQ G π st Pr m a Q .ret s' = Q .ret s' := (rfl)
theorem VW.loopQ {α : Type} {x : VCode} {s : VS} (st : α → VS) (Pr : α → Prop) (m : α → Nat) (x0 : α) (hw : Wk G π s (st x0)) (h0 : Pr x0)
    (h : ∀ a, Pr a → vwp P G π x (LoopQ G π st Pr m a Q) (st a)) : VW P G π (.loop x) Q s := by
  refine VW.wk hw ?_
  intro c hc own E w a R hm hR
  cases c <;> simp only [cCode, Option.some.injEq, reduceCtorEq] at hc
  case loop cb =>
    cases h1 : cCode P cb with
    | none => simp [h1] at hc
    | some vb =>
      simp only [h1, Option.map_some, Option.some.injEq, VCode.loop.injEq] at hc
      subst hc
      refine wp_loop_rel (α := α) (fun g a' w' => Pr g ∧ ∃ E', AdvP own π E E' w w' ∧ Matched G π own E' w' (st g) a') m (x := x0) ⟨h0, E, AdvP.refl own π E w, hm⟩ ?_
      rintro g a2 w2 ⟨hI2, E2, ad2, hm2⟩
      refine VW.of (h g hI2) cb h1 own E2 w2 a2 _ hm2 ?_
      intro e s' E' w' a' hq had hm'
      cases e with
      | normal =>
        obtain ⟨g', hI3, hlt, hw3⟩ := hq
        obtain ⟨E3, ad3, hm3⟩ := hw3 own E' w' a' hm'
        exact ⟨g', ⟨hI3, E3, (ad2.trans had).trans ad3, hm3⟩, hlt⟩
      | exit id => exact hR (.exit id) s' E' w' a' hq (ad2.trans had) hm'
      | ret => exact hR .ret s' E' w' a' hq (ad2.trans had) hm'
  case region => exfalso; revert hc; unfold cRegion; (repeat' split) <;> simp
  all_goals (exfalso; revert hc; (repeat' split) <;> simp)
theorem VP.of {f : FuncId} {fn : Func} {vf : VFunc} (hf : P.funcs[f]? = some fn) (hc : cFunc P fn = some vf) {args : List AV} {r : AV}
    (h : vwp P G [] vf.body (RetQ vf.results r) ⟨args ++ List.replicate (vf.nt - args.length) (.tup []), fun _ => none, 0⟩) : VP P G f args r :=
  VP.of_vw hf hc (VW.of h)
end
end Go.VL
end

section
namespace Go.VL
def Store.of (S : List (Id × Blk)) : Store := fun i => S.lookup i
theorem lookup_mem {S : List (Id × Blk)} {i : Id} {b : Blk} : S.lookup i = some b → (i, b) ∈ S := by
  induction S with
  | nil => intro h; simp at h
  | cons x S ih =>
    intro h
    obtain ⟨j, c⟩ := x
    simp only [List.lookup_cons] at h
    split at h
    · rename_i he
      have : i = j := by simpa using he
      subst this
      simp only [Option.some.injEq] at h; subst h; simp
    · exact List.mem_cons_of_mem _ (ih h)
theorem Store.of_sub {S : List (Id × Blk)} {σ : Store} (h : ∀ x ∈ S, σ x.1 = some x.2) (i : Id) : Store.of S i = none ∨ Store.of S i = σ i := by
  cases hl : S.lookup i with
  | none => exact .inl hl
  | some b => right; show S.lookup i = σ i; rw [hl]; exact (h _ (lookup_mem hl)).symm
theorem Store.app_at (up : List (Id × Option Blk)) (σ σ' : Store) (i : Id) (h : (∃ x ∈ up, x.1 = i) ∨ σ i = σ' i) : σ.app up i = σ'.app up i := by
  induction up generalizing σ σ' with
  | nil => rcases h with ⟨x, hx, _⟩ | h
           · simp at hx
           · exact h
  | cons x up ih =>
    obtain ⟨j, b⟩ := x
    simp only [Store.app]
    apply ih
    by_cases hj : i = j
    · right; subst hj; simp [Store.put]
    · rcases h with ⟨y, hy, he⟩ | h
      · simp only [List.mem_cons] at hy
        rcases hy with rfl | hy
        · exact absurd he.symm hj
        · exact .inl ⟨y, hy, he⟩
      · right; simp [Store.put, hj, h]
theorem Store.app_out (up : List (Id × Option Blk)) (σ : Store) (i : Id) (h : ∀ x ∈ up, x.1 ≠ i) : σ.app up i = σ i := by
  induction up generalizing σ with
  | nil => rfl
  | cons x up ih =>
    obtain ⟨j, b⟩ := x
    simp only [Store.app]
    rw [ih _ fun y hy => h y (List.mem_cons_of_mem _ hy), Store.put_other]
    exact fun e => h (j, b) (by simp) e.symm
section
variable {P : Program} {G : Nat → Option (List AV)}
def Fin (G : Nat → Option (List AV)) (p : Id) (S : List (Id × Blk)) (σ' : Store) (r0 : AV) (r : Res) : Prop :=
  ∀ own E w v, Inv G own E w σ' → Rep E w r0 v → E.μ p = none → ∃ E', AdvP own p E E' w w ∧ Inv G own E' w ((Store.of S).app r.up) ∧ Rep E' w r.val v
def EndQ (G : Nat → Option (List AV)) (p : Id) (S : List (Id × Blk)) (rs : List VRes) (r : Res) (e : VExit) (s : VS) : Prop :=
  (e = .normal ∨ e = .ret) ∧ ∃ r0, outAV rs s = some r0 ∧ Fin G p S s.σ r0 r
theorem CallRel.of_VW {f : FuncId} {fn : Func} {vf : VFunc} (hf : P.funcs[f]? = some fn) (hc : cFunc P fn = some vf) {args : List AV} {p : Id} {S : List (Id × Blk)} {r : Res}
    (h : VW P G p vf.body (EndQ G p S vf.results r) ⟨args ++ List.replicate (vf.nt - args.length) (.tup []), Store.of S, 0⟩) : CallRel P G f args p S r := by
  unfold cFunc at hc
  split at hc
  · simp at hc
  · rename_i hname
    split at hc
    · rename_i c rs hb hrs
      simp only [Option.map_eq_some_iff] at hc
      obtain ⟨vb, hvb, rfl⟩ := hc
      refine ⟨⟨fn, hf, by simpa using hname, by simp [hb]⟩, fun own E w σ vs hS hi hr hμ => ?_⟩
      refine calls_of_wp hf hb ?_
      have hal : vs.length = args.length := RepL.len hr
      let own' : Nat → Prop := fun g => (∃ x ∈ S, ∃ y, E.μ x.1 = some y ∧ y.1 = g) ∨ w.heap.size ≤ g
      have hsub : ∀ i, Store.of S i = none ∨ Store.of S i = σ i := Store.of_sub hS
      have hown : ∀ g, own' g → own g := by
        rintro g (⟨x, hx, y, hy, rfl⟩ | hg)
        · obtain ⟨g, N, cur, ty, hB⟩ := hi.blk _ _ (hS x hx)
          have := hB.μ.symm.trans hy
          simp only [Option.some.injEq] at this
          subst this
          exact hB.own
        · exact hi.new g hg
      have hi0 : Inv G own' E w (Store.of S) := by
        refine ⟨hi.okb, fun id bk hs => ?_, (hi.sub hsub).inj, hi.glob, fun k hk => .inr hk⟩
        have hm := lookup_mem hs
        obtain ⟨g, N, cur, ty, hB⟩ := hi.blk _ _ (hS _ hm)
        exact ⟨g, N, cur, ty, hB.μ, hB.heap, hB.size, hB.len, hB.most, .inl ⟨_, hm, _, hB.μ, rfl⟩, hB.ok, hB.no, hB.k, hB.row⟩
      have hm : Matched G p own' E w ⟨args ++ List.replicate (fn.ntmps - args.length) (.tup []), Store.of S, 0⟩
          { tmps := vs.toArray ++ Array.replicate (fn.ntmps - vs.toArray.size) undef, defers := [] } := by
        refine ⟨?_, hi0, fun j hj _ => hμ j hj, rfl⟩
        show RepL _ w _ _
        simp only [Array.toList_append, Array.toList_replicate, List.size_toArray, hal]
        refine RepL.append hr (repL_iff.2 ⟨by simp, fun j c hj => ?_⟩)
        have hjl : j < fn.ntmps - args.length := by have := (List.getElem?_eq_some_iff.1 hj).1; simpa using this
        simp only [List.getElem?_replicate, hjl, if_true, Option.some.injEq] at hj ⊢
        subst hj
        exact ⟨undef, rfl, by simp only [Rep, undef]; exact ⟨#[], rfl, by simp [RepL]⟩⟩
      refine h c hvb own' E w _ _ hm ?_
      intro e s' E' w' a' hq had hm'
      obtain ⟨he, r0, hr0, hfin⟩ := hq
      obtain ⟨v, hv1, hv2⟩ := results_run hm' hrs hr0
      obtain ⟨E2, had2, hi2, hv3⟩ := hfin own' E' w' v hm'.inv hv2 hm'.free.self
      have hadv : AdvP own' p E E2 w w' := had.trans had2
      have hadvo : Adv own E E2 w w' :=
        ⟨hadv.step, hadv.os, hadv.tape, hadv.output, hadv.size, fun k hk ho => hadv.block k hk fun h => ho (hown k h), fun b hb => (hadv.okn b hb).imp id (hown b)⟩
      -- a block of the caller that the function did not have
      have key : ∀ i bk, σ i = some bk → Store.of S i = none → ∀ g N cur ty, BlkAt E own w i bk g N cur ty → ¬ own' g := by
        intro i bk hs hn g N cur ty hB
        rintro (⟨x, hx, y, hy, he⟩ | hg)
        · refine hi.inj x.1 i y (g, bk.k, N) (by simp [hS x hx]) (by simp [hs]) ?_ hy hB.μ he
          intro e
          have := hS x hx
          have h1 : (Store.of S) x.1 ≠ none := by
            show S.lookup x.1 ≠ none
            intro hl
            rw [List.lookup_eq_none_iff] at hl
            have := hl x hx
            simp at this
          rw [e] at h1
          exact h1 hn
        · have := cells_lt hB.heap; omega
      have fin : ∃ v', Ending.returned v = .returned v' ∧ OpPost G own E w σ p r v' E2 w' := by
        refine ⟨v, rfl, hadvo, ?_, hv3, hadv.ids⟩
        -- the invariant of the caller's store
        have cases_app : ∀ i, (σ.app r.up i = (Store.of S).app r.up i) ∨ (σ.app r.up i = σ i ∧ (Store.of S i = none)) := by
          intro i
          by_cases h : (∃ x ∈ r.up, x.1 = i) ∨ σ i = Store.of S i
          · exact .inl (Store.app_at r.up σ (Store.of S) i h)
          · right
            have h1 : ∀ x ∈ r.up, x.1 ≠ i := fun x hx e => h (.inl ⟨x, hx, e⟩)
            refine ⟨Store.app_out r.up σ i h1, ?_⟩
            rcases hsub i with h2 | h2
            · exact h2
            · exact absurd (.inr h2.symm) h
        have hold : ∀ i bk, σ i = some bk → Store.of S i = none → ∃ g N cur ty, BlkAt E own w i bk g N cur ty ∧ BlkAt E2 own w' i bk g N cur ty ∧ ¬ own' g := by
          intro i bk hs hn
          obtain ⟨g, N, cur, ty, hB⟩ := hi.blk i bk hs
          have hno := key i bk hs hn g N cur ty hB
          refine ⟨g, N, cur, ty, hB, hB.keep hadv.step (hadv.block g (cells_lt hB.heap) hno) (fun hf hok => ?_), hno⟩
          exact (hadv.okn g hok).elim (hB.no hf) hno
        refine ⟨hi2.okb, fun i bk hs => ?_, fun i j x y hi' hj' hne hx hy => ?_, hi2.glob, fun k hk => hi.new k (Nat.le_trans hadv.size hk)⟩
        · rcases cases_app i with h1 | ⟨h1, h2⟩
          · rw [h1] at hs
            obtain ⟨g, N, cur, ty, hB⟩ := hi2.blk i bk hs
            exact ⟨g, N, cur, ty, hB.μ, hB.heap, hB.size, hB.len, hB.most, hown g hB.own, hB.ok, hB.no, hB.k, hB.row⟩
          · rw [h1] at hs
            obtain ⟨g, N, cur, ty, _, hB, _⟩ := hold i bk hs h2
            exact ⟨g, N, cur, ty, hB⟩
        · have new : ∀ i x, σ.app r.up i ≠ none → σ.app r.up i = (Store.of S).app r.up i → E2.μ i = some x → own' x.1 := by
            intro i x hn he hx
            rw [he] at hn
            cases hb : (Store.of S).app r.up i with
            | none => exact absurd hb hn
            | some bk =>
              obtain ⟨g, N, cur, ty, hB⟩ := hi2.blk i bk hb
              have := hB.μ.symm.trans hx
              simp only [Option.some.injEq] at this
              subst this
              exact hB.own
          have old : ∀ i x, σ.app r.up i ≠ none → σ.app r.up i = σ i → Store.of S i = none → E2.μ i = some x → ¬ own' x.1 := by
            intro i x hn he hs hx
            rw [he] at hn
            cases hb : σ i with
            | none => exact absurd hb hn
            | some bk =>
              obtain ⟨g, N, cur, ty, _, hB, hno⟩ := hold i bk hb hs
              have := hB.μ.symm.trans hx
              simp only [Option.some.injEq] at this
              subst this
              exact hno
          rcases cases_app i with h1 | ⟨h1, h2⟩ <;> rcases cases_app j with h3 | ⟨h3, h4⟩
          · exact hi2.inj i j x y (h1 ▸ hi') (h3 ▸ hj') hne hx hy
          · intro e; exact old j y hj' h3 h4 hy (e ▸ new i x hi' h1 hx)
          · intro e; exact old i x hi' h1 h2 hx (e ▸ new j y hj' h3 hy)
          · have lift : ∀ i x, σ.app r.up i ≠ none → σ.app r.up i = σ i → Store.of S i = none → E2.μ i = some x → E.μ i = some x := by
              intro i x hn he hs hx
              rw [he] at hn
              cases hb : σ i with
              | none => exact absurd hb hn
              | some bk =>
                obtain ⟨g, N, cur, ty, hB, hB2, hno⟩ := hold i bk hb hs
                rw [hB.μ, ← hB2.μ, hx]
            exact hi.inj i j x y (h1 ▸ hi') (h3 ▸ hj') hne (lift i x hi' h1 h2 hx) (lift j y hj' h3 h4 hy)
      have fin2 : ∃ v0, (results fn a'.tmps).run P w' = .ok v0 w' ∧ ∃ v' E', Ending.returned v0 = .returned v' ∧ OpPost G own E w σ p r v' E' w' := by
        obtain ⟨v', h1, h2⟩ := fin
        exact ⟨v, hv1, v', E2, h1, h2⟩
      rcases he with rfl | rfl
      · exact ⟨hm'.defers, fin2⟩
      · exact ⟨hm'.defers, fin2⟩
    · simp at hc
theorem Fin.same {p : Id} {S : List (Id × Blk)} {σ' : Store} {r0 : AV} {r : Res} (hv : r.val = r0) (hs : ∀ i, (Store.of S).app r.up i = none ∨ (Store.of S).app r.up i = σ' i) : Fin G p S σ' r0 r :=
  fun own E w _ hi hr _ => ⟨E, AdvP.refl own p E w, hi.sub hs, hv ▸ hr⟩
end
end Go.VL
end

section
namespace Go.VL
abbrev LStore := List (Id × Blk × Bool)
def LStore.find : LStore → Id → Option Blk
  | [], _ => none
  | (j, b, _) :: L, i => if i = j then some b else LStore.find L i
def LStore.del : LStore → Id → LStore
  | [], _ => []
  | x :: L, i => if i = x.1 then LStore.del L i else x :: LStore.del L i
def LStore.to (L : LStore) : Store := fun i => L.find i
def LStore.one (L : LStore) : Id × Option Blk → LStore
  | (i, some b) => (i, b, true) :: L.del i
  | (i, none) => L.del i
def LStore.app (L : LStore) : List (Id × Option Blk) → LStore
  | [] => L
  | x :: up => (L.one x).app up
theorem LStore.find_del (L : LStore) (i j : Id) : (L.del i).find j = if j = i then none else L.find j := by
  induction L with
  | nil => simp [LStore.del, LStore.find]
  | cons x L ih =>
    obtain ⟨a, b, c⟩ := x
    simp only [LStore.del]
    by_cases h : i = a
    · subst h
      simp only [if_true, ih, LStore.find]
      by_cases h2 : j = i
      · simp [h2]
      · simp [h2]
    · simp only [if_neg h, LStore.find, ih]
      by_cases h2 : j = a
      · subst h2
        have : ¬ j = i := fun e => h e.symm
        simp [this]
      · simp [h2]
theorem LStore.to_one (L : LStore) (x : Id × Option Blk) : (L.one x).to = L.to.put x.1 x.2 := by
  obtain ⟨i, b⟩ := x
  funext j
  cases b with
  | none => simp only [LStore.one, LStore.to, LStore.find_del, Store.put]
  | some b =>
    simp only [LStore.one, LStore.to, LStore.find, LStore.find_del, Store.put]
    split <;> simp_all
theorem LStore.to_app (up : List (Id × Option Blk)) : ∀ L : LStore, (L.app up).to = L.to.app up := by
  induction up with
  | nil => intro L; rfl
  | cons x up ih => intro L; simp only [LStore.app, ih, LStore.to_one, Store.app]
mutual
def AV.ids : AV → List Id
  | .fn _ a c => idsL a ++ idsL c
  | .agg cs | .tup cs | .sl _ cs | .tsl _ cs | .ep cs _ => idsL cs
  | .osl i _ _ _ _ | .ref i _ _ => [i]
  | _ => []
def idsL : List AV → List Id
  | [] => []
  | c :: cs => c.ids ++ idsL cs
end
def reach : Nat → LStore → List Id → List (Id × Blk) → List (Id × Blk)
  | 0, _, _, S => S
  | _ + 1, _, [], S => S
  | n + 1, L, i :: is, S => match S.lookup i with
    | some _ => reach n L is S
    | none => match L.find i with
      | some b => reach n L (idsL b.els ++ is) ((i, b) :: S)
      | none => reach n L is S
theorem reach_sub {L : LStore} : ∀ (n : Nat) (is : List Id) (S : List (Id × Blk)), (∀ x ∈ S, L.to x.1 = some x.2) → ∀ x ∈ reach n L is S, L.to x.1 = some x.2
  | 0, _, _, h => h
  | _ + 1, [], _, h => by simpa [reach] using h
  | n + 1, i :: is, S, h => by
    simp only [reach]
    split
    · exact reach_sub n is S h
    · split
      · rename_i b hb
        refine reach_sub n _ _ fun x hx => ?_
        rcases List.mem_cons.1 hx with rfl | hx
        · exact hb
        · exact h x hx
      · exact reach_sub n is S h
inductive Tab where
  | leaf
  | node (k : Nat) (v : VFunc) (l r : Tab)
def Tab.find : Tab → Nat → Option VFunc
  | .leaf, _ => none
  | .node k v l r, f => if f = k then some v else if f < k then l.find f else r.find f
def Tab.Of (P : Program) : Tab → Prop
  | .leaf => True
  | .node k v l r => (∃ fn, P.funcs[k]? = some fn ∧ cFunc P fn = some v) ∧ l.Of P ∧ r.Of P
theorem Tab.of_find {P : Program} {f : Nat} {vf : VFunc} : ∀ {T : Tab}, T.Of P → T.find f = some vf → ∃ fn, P.funcs[f]? = some fn ∧ cFunc P fn = some vf
  | .leaf, _, h => by simp [Tab.find] at h
  | .node k v l r, ho, h => by
    simp only [Tab.find] at h
    split at h
    · rename_i e
      simp only [Option.some.injEq] at h
      subst h; subst e
      exact ho.1
    · split at h
      · exact Tab.of_find ho.2.1 h
      · exact Tab.of_find ho.2.2 h
section
variable (G : Nat → Option (List AV))
def evStep (C : FuncId → List AV → Id → LStore → Option Res) (L : LStore) (p : Id) (op : VOp AV) : Option Res :=
  match op with
  | .call f as => match f with
    | .fn (.func f) first cap => C f (first ++ as ++ cap) p L
    | _ => none
  | op => vop L.to p op
def evOps (C : FuncId → List AV → Id → LStore → Option Res) (π : Id) (base : Nat) : List VOper → Nat → List Res → List AV → LStore → Option (List Res × List AV × LStore)
  | [], _, acc, t, L => some (acc, t, L)
  | o :: os, i, acc, t, L => match vwanted t o.guard with
    | none => none
    | some false => evOps C π base os (i + 1) ({ val := .tup [] } :: acc) (putT t o.dst (.tup [])) L
    | some true => match evStep C L ((base + i) :: π) (o.op.map (VArg.ev G t)) with
      | none => none
      | some r => evOps C π base os (i + 1) (r :: acc) (putT t o.dst r.val) (L.app r.up)
def noneIn (a b : List Id) : Bool := a.all fun i => !b.contains i
def apartB (a b : Res) : Bool := noneIn (a.up.map (·.1)) b.rd && noneIn (a.up.map (·.1)) (b.up.map (·.1)) && noneIn (b.up.map (·.1)) a.rd
def allApartB (rs : List Res) (ps : List (Nat × Nat)) : Bool := ps.all fun q => match rs[q.1]?, rs[q.2]? with
  | some a, some b => apartB a b
  | _, _ => true
structure LS where
  t : List AV
  L : LStore
  n : Nat
def LS.to (s : LS) : VS := ⟨s.t, s.L.to, s.n⟩
def LStore.live (L : LStore) (K : List (Id × Blk)) : LStore := L.filter fun x => (K.lookup x.1).isSome
def ups (S : List (Id × Blk)) (L : LStore) : List (Id × Option Blk) :=
  (S.filter fun x => (L.find x.1).isNone).map (fun x => (x.1, none)) ++ (L.filter fun x => x.2.2).map fun x => (x.1, some x.2.1)
def evFunc (X : FuncId → List AV → Id → LStore → Option Res) (R : VCode → Id → LS → Option (VExit × LS)) (T : Tab) (f : FuncId) (args : List AV) (p : Id) (L : LStore) : Option Res :=
  match X f args p L with
  | some r => some r
  | none =>
  match T.find f with
  | none => none
  | some vf =>
    let S := reach 1000 L (idsL args) []
    match R vf.body p ⟨args ++ List.replicate (vf.nt - args.length) (.tup []), S.map fun x => (x.1, x.2, false), 0⟩ with
    | some (.normal, s) | some (.ret, s) => match outAV vf.results s.to with
      | some r0 => some { val := r0, rd := S.map (·.1), up := ups S (s.L.live (reach 1000 s.L (r0.ids ++ S.map (·.1)) [])) }
      | none => none
    | _ => none
def run (X : FuncId → List AV → Id → LStore → Option Res) (T : Tab) : Nat → VCode → Id → LS → Option (VExit × LS)
  | 0, _, _, _ => none
  | m + 1, c, π, s => match c with
    | .skip => some (.normal, s)
    | .ret => some (.ret, s)
    | .exit i => some (.exit i, s)
    | .seq a b => match run X T m a π s with
      | some (.normal, s') => run X T m b π s'
      | r => r
    | .cond c a b => match c.ev G s.t with
      | .bool true => run X T m a π s
      | .bool false => run X T m b π s
      | _ => none
    | .block i c => match run X T m c π s with
      | some (.exit j, s') => if j = i then some (.normal, s') else some (.exit j, s')
      | r => r
    | .loop c => match run X T m c π s with
      | some (.normal, s') => run X T m (.loop c) π s'
      | r => r
    | .reg ps os => match evOps G (evFunc X (run X T m) T) π s.n os 0 [] s.t s.L with
      | none => none
      | some (rs, t, L) => match ps with
        | none => some (.normal, ⟨t, L, s.n + os.length⟩)
        | some ps => if allApartB rs.reverse ps then some (.normal, ⟨t, L, s.n + os.length⟩) else none
end
section
variable {P : Program} {G : Nat → Option (List AV)} {X : FuncId → List AV → Id → LStore → Option Res} {T : Tab}
def CallOk (P : Program) (G : Nat → Option (List AV)) (C : FuncId → List AV → Id → LStore → Option Res) : Prop :=
  ∀ f args p L r, C f args p L = some r → ∃ S, CallRel P G f args p S r ∧ (∀ x ∈ S, L.to x.1 = some x.2) ∧ ∀ x ∈ S, x.1 ∈ r.rd
theorem evStep_sound {C : FuncId → List AV → Id → LStore → Option Res} (hC : CallOk P G C) {L : LStore} {p : Id} {op : VOp AV} {r : Res} (h : evStep C L p op = some r) {K : Res → Prop} (hK : K r) : vstep P G L.to p op K := by
  unfold evStep at h
  unfold vstep
  cases op with
  | call f as =>
    simp only [] at h ⊢
    split at h
    · obtain ⟨S, h1, h2, h3⟩ := hC _ _ _ _ _ h
      exact ⟨S, r, h1, h2, h3, hK⟩
    · simp at h
  | _ => simp only [] at h ⊢; rw [h]; exact hK
theorem evOps_par {C : FuncId → List AV → Id → LStore → Option Res} (hC : CallOk P G C) {π : Id} {base : Nat} {rs : List Res} {t' : List AV} {L' : LStore} {K : List Res → List AV → Store → Prop} (hK : K rs.reverse t' L'.to) :
    ∀ (os : List VOper) (i : Nat) (acc : List Res) (t : List AV) (L : LStore), evOps G C π base os i acc t L = some (rs, t', L') → vpar P G π base K os i acc t L.to
  | [], i, acc, t, L, h => by
    simp only [evOps, Option.some.injEq, Prod.mk.injEq] at h
    obtain ⟨rfl, rfl, rfl⟩ := h
    exact hK
  | o :: os, i, acc, t, L, h => by
    simp only [evOps] at h
    simp only [vpar]
    split at h
    · simp at h
    · rename_i hw; rw [hw]; exact evOps_par hC hK os _ _ _ _ h
    · rename_i hw
      rw [hw]
      split at h
      · simp at h
      · rename_i r hr
        have := evOps_par hC hK os _ _ _ _ h
        rw [LStore.to_app] at this
        exact evStep_sound hC hr this
theorem evOps_seq {C : FuncId → List AV → Id → LStore → Option Res} (hC : CallOk P G C) {π : Id} {base : Nat} {rs : List Res} {t' : List AV} {L' : LStore} {K : List AV → Store → Prop} (hK : K t' L'.to) :
    ∀ (os : List VOper) (i : Nat) (acc : List Res) (t : List AV) (L : LStore), evOps G C π base os i acc t L = some (rs, t', L') → vseq P G π base K os i t L.to
  | [], i, acc, t, L, h => by
    simp only [evOps, Option.some.injEq, Prod.mk.injEq] at h
    obtain ⟨rfl, rfl, rfl⟩ := h
    exact hK
  | o :: os, i, acc, t, L, h => by
    simp only [evOps] at h
    simp only [vseq]
    split at h
    · simp at h
    · rename_i hw; rw [hw]; exact evOps_seq hC hK os _ _ _ _ h
    · rename_i hw
      rw [hw]
      split at h
      · simp at h
      · rename_i r hr
        have := evOps_seq hC hK os _ _ _ _ h
        rw [LStore.to_app] at this
        exact evStep_sound hC hr this
theorem noneIn_spec {a b : List Id} (h : noneIn a b = true) {i : Id} (hi : i ∈ a) : i ∉ b := by
  simp only [noneIn, List.all_eq_true, Bool.not_eq_true', List.contains_eq_mem, decide_eq_false_iff_not] at h
  exact h i hi
theorem allApartB_spec {rs : List Res} {ps : List (Nat × Nat)} (h : allApartB rs ps = true) : allApart rs ps := by
  intro q hq a b ha hb
  simp only [allApartB, List.all_eq_true] at h
  have := h q hq
  rw [ha, hb] at this
  simp only [apartB, Bool.and_eq_true] at this
  obtain ⟨⟨h1, h2⟩, h3⟩ := this
  exact ⟨fun x hx => ⟨noneIn_spec h1 (List.mem_map.2 ⟨x, hx, rfl⟩), noneIn_spec h2 (List.mem_map.2 ⟨x, hx, rfl⟩)⟩, fun x hx => noneIn_spec h3 (List.mem_map.2 ⟨x, hx, rfl⟩)⟩
theorem find_init (S : List (Id × Blk)) (i : Id) : (LStore.find (S.map fun x => (x.1, x.2, false)) i) = S.lookup i := by
  induction S with
  | nil => rfl
  | cons x S ih =>
    obtain ⟨j, b⟩ := x
    simp only [List.map_cons, LStore.find, ih, List.lookup_cons]
    by_cases h : i = j
    · simp [h]
    · have : (i == j) = false := by simpa using h
      simp [h, this]
theorem find_mem {L : LStore} {i : Id} {b : Blk} (h : L.find i = some b) : ∃ d, (i, b, d) ∈ L := by
  induction L with
  | nil => simp [LStore.find] at h
  | cons x L ih =>
    obtain ⟨j, c, d⟩ := x
    simp only [LStore.find] at h
    split at h
    · rename_i e; subst e; simp only [Option.some.injEq] at h; subst h; exact ⟨d, by simp⟩
    · obtain ⟨d', hd⟩ := ih h; exact ⟨d', by simp [hd]⟩
def Clean (S : List (Id × Blk)) (L : LStore) : Prop := (∀ i b, (i, b, false) ∈ L → S.lookup i = some b) ∧ (L.map (·.1)).Nodup
theorem Clean.del {S : List (Id × Blk)} {L : LStore} (h : Clean S L) (i : Id) : Clean S (L.del i) ∧ i ∉ (L.del i).map (·.1) ∧ ∀ x ∈ L.del i, x ∈ L := by
  have sub : ∀ L : LStore, (∀ x ∈ L.del i, x ∈ L) ∧ i ∉ (L.del i).map (·.1) ∧ (L.del i).Sublist L := by
    intro L
    induction L with
    | nil => simp [LStore.del]
    | cons x L ih =>
      simp only [LStore.del]
      split
      · exact ⟨fun y hy => List.mem_cons_of_mem _ (ih.1 y hy), ih.2.1, ih.2.2.cons _⟩
      · rename_i hne
        refine ⟨fun y hy => ?_, ?_, ih.2.2.cons_cons _⟩
        · rcases List.mem_cons.1 hy with rfl | hy
          · simp
          · exact List.mem_cons_of_mem _ (ih.1 y hy)
        · simp only [List.map_cons, List.mem_cons, not_or]
          exact ⟨hne, ih.2.1⟩
  exact ⟨⟨fun j b hj => h.1 j b ((sub L).1 _ hj), h.2.sublist ((sub L).2.2.map _)⟩, (sub L).2.1, (sub L).1⟩
theorem Clean.live {S : List (Id × Blk)} {L : LStore} (h : Clean S L) (K : List (Id × Blk)) : Clean S (L.live K) :=
  ⟨fun i b hi => h.1 i b (List.mem_filter.1 hi).1, h.2.sublist (List.filter_sublist.map _)⟩
theorem LStore.live_find (L : LStore) (K : List (Id × Blk)) (i : Id) : (L.live K).find i = none ∨ (L.live K).find i = L.find i := by
  induction L with
  | nil => exact .inl rfl
  | cons x L ih =>
    obtain ⟨j, b, d⟩ := x
    unfold LStore.live at ih ⊢
    by_cases hk : (K.lookup j).isSome = true
    · rw [List.filter_cons_of_pos (by exact hk)]
      simp only [LStore.find]
      by_cases h : i = j
      · simp [h]
      · simp only [if_neg h]; exact ih
    · rw [List.filter_cons_of_neg (by exact hk)]
      by_cases h : i = j
      · subst h
        left
        cases hf : LStore.find (L.filter fun x => (K.lookup x.1).isSome) i with
        | none => rfl
        | some c =>
          obtain ⟨d', hd⟩ := find_mem hf
          have := (List.mem_filter.1 hd).2
          exact absurd this hk
      · simp only [LStore.find, if_neg h]; exact ih
theorem Clean.one {S : List (Id × Blk)} {L : LStore} (h : Clean S L) (x : Id × Option Blk) : Clean S (L.one x) := by
  obtain ⟨i, b⟩ := x
  have hd := h.del i
  cases b with
  | none => exact hd.1
  | some b =>
    refine ⟨fun j c hj => ?_, ?_⟩
    · simp only [LStore.one, List.mem_cons, Prod.mk.injEq, Bool.false_eq_true, and_false, false_or] at hj
      exact hd.1.1 j c hj
    · simp only [LStore.one, List.map_cons, List.nodup_cons]
      exact ⟨hd.2.1, hd.1.2⟩
theorem Clean.app {S : List (Id × Blk)} : ∀ (up : List (Id × Option Blk)) {L : LStore}, Clean S L → Clean S (L.app up)
  | [], _, h => h
  | x :: up, _, h => Clean.app up (h.one x)
theorem evOps_clean {S : List (Id × Blk)} {C : FuncId → List AV → Id → LStore → Option Res} {π : Id} {base : Nat} {rs : List Res} {t' : List AV} {L' : LStore} :
    ∀ (os : List VOper) (i : Nat) (acc : List Res) (t : List AV) (L : LStore), evOps G C π base os i acc t L = some (rs, t', L') → Clean S L → Clean S L'
  | [], i, acc, t, L, h, hc => by
    simp only [evOps, Option.some.injEq, Prod.mk.injEq] at h
    obtain ⟨rfl, rfl, rfl⟩ := h
    exact hc
  | o :: os, i, acc, t, L, h, hc => by
    simp only [evOps] at h
    split at h
    · simp at h
    · exact evOps_clean os _ _ _ _ h hc
    · split at h
      · simp at h
      · exact evOps_clean os _ _ _ _ h (hc.app _)
theorem run_clean {S : List (Id × Blk)} : ∀ (m : Nat) (c : VCode) (π : Id) (s s' : LS) (e : VExit), run G X T m c π s = some (e, s') → Clean S s.L → Clean S s'.L
  | 0, _, _, _, _, _, h, _ => by simp [run] at h
  | m + 1, c, π, s, s', e, h, hc => by
    cases c with
    | skip => simp only [run, Option.some.injEq, Prod.mk.injEq] at h; obtain ⟨_, rfl⟩ := h; exact hc
    | ret => simp only [run, Option.some.injEq, Prod.mk.injEq] at h; obtain ⟨_, rfl⟩ := h; exact hc
    | exit i => simp only [run, Option.some.injEq, Prod.mk.injEq] at h; obtain ⟨_, rfl⟩ := h; exact hc
    | seq a b =>
      simp only [run] at h
      split at h
      · rename_i s1 h1
        exact run_clean m b π s1 s' e h (run_clean m a π s s1 _ h1 hc)
      · exact run_clean m a π s s' e h hc
    | cond c a b =>
      simp only [run] at h
      split at h
      · exact run_clean m a π s s' e h hc
      · exact run_clean m b π s s' e h hc
      · simp at h
    | block i c =>
      simp only [run] at h
      split at h
      · rename_i j s1 h1
        have := run_clean m c π s s1 _ h1 hc
        split at h <;> (simp only [Option.some.injEq, Prod.mk.injEq] at h; obtain ⟨_, rfl⟩ := h; exact this)
      · exact run_clean m c π s s' e h hc
    | loop c =>
      simp only [run] at h
      split at h
      · rename_i s1 h1
        exact run_clean m (.loop c) π s1 s' e h (run_clean m c π s s1 _ h1 hc)
      · exact run_clean m c π s s' e h hc
    | reg ps os =>
      simp only [run] at h
      split at h
      · simp at h
      · rename_i rs t L h1
        have := evOps_clean os _ _ _ _ h1 hc
        split at h
        · simp only [Option.some.injEq, Prod.mk.injEq] at h; obtain ⟨_, rfl⟩ := h; exact this
        · split at h
          · simp only [Option.some.injEq, Prod.mk.injEq] at h; obtain ⟨_, rfl⟩ := h; exact this
          · simp at h
open Classical in
theorem ups_spec {S : List (Id × Blk)} {L : LStore} (hc : Clean S L) (i : Id) : (Store.of S).app (ups S L) i = L.to i := by
  have app_append : ∀ (a b : List (Id × Option Blk)) (σ : Store), σ.app (a ++ b) = (σ.app a).app b := by
    intro a
    induction a with
    | nil => intro b σ; rfl
    | cons x a ih => intro b σ; simp only [List.cons_append, Store.app]; exact ih b _
  unfold ups
  rw [app_append]
  generalize hσ : (Store.of S).app ((S.filter fun x => (L.find x.1).isNone).map (fun x => (x.1, none))) = σ1
  have none_app : ∀ (l : List Id) (σ : Store), σ.app (l.map fun i => (i, none)) i = if i ∈ l then none else σ i := by
    intro l
    induction l with
    | nil => intro σ; simp [Store.app]
    | cons j l ih =>
      intro σ
      simp only [List.map_cons, Store.app, ih, Store.put]
      by_cases h1 : i ∈ l
      · simp [h1]
      · by_cases h2 : i = j <;> simp [h1, h2]
  have h1 : σ1 i = if (∃ b, (i, b) ∈ S) ∧ L.find i = none then none else S.lookup i := by
    rw [← hσ]
    have := none_app ((S.filter fun x => (L.find x.1).isNone).map (·.1)) (Store.of S)
    rw [List.map_map] at this
    have e : ((fun i => (i, (none : Option Blk))) ∘ fun x : Id × Blk => x.1) = fun x => (x.1, none) := rfl
    rw [e] at this
    rw [this]
    have e2 : (i ∈ ((S.filter fun x => (L.find x.1).isNone).map (·.1))) ↔ ((∃ b, (i, b) ∈ S) ∧ L.find i = none) := by
      simp only [List.mem_map, List.mem_filter, Option.isNone_iff_eq_none]
      constructor
      · rintro ⟨⟨j, b⟩, ⟨h1, h2⟩, rfl⟩; exact ⟨⟨b, h1⟩, h2⟩
      · rintro ⟨⟨b, hb⟩, h2⟩; exact ⟨(i, b), ⟨hb, h2⟩, rfl⟩
    by_cases h : (∃ b, (i, b) ∈ S) ∧ L.find i = none
    · rw [if_pos h, if_pos (e2.2 h)]
    · rw [if_neg h, if_neg fun hh => h (e2.1 hh)]; rfl
  clear hσ
  -- the written ones
  have key : ∀ (L0 : LStore) (σ : Store), (L0.map (·.1)).Nodup →
      σ.app ((L0.filter fun x => x.2.2).map fun x => (x.1, some x.2.1)) i = match L0.find i with
        | some b => if (i, b, true) ∈ L0 then some b else σ i
        | none => σ i := by
    intro L0
    induction L0 with
    | nil => intro σ _; rfl
    | cons x L0 ih =>
      intro σ hn
      obtain ⟨j, b, d⟩ := x
      simp only [List.map_cons, List.nodup_cons] at hn
      have hnot : ∀ b d, (j, b, d) ∉ L0 := fun b d hm => hn.1 (List.mem_map.2 ⟨_, hm, rfl⟩)
      have hfj : LStore.find L0 j = none := by
        cases h : LStore.find L0 j with
        | none => rfl
        | some c => obtain ⟨d, hd⟩ := find_mem h; exact absurd hd (hnot c d)
      cases d with
      | false =>
        simp only [Bool.false_eq_true, not_false_eq_true, List.filter_cons_of_neg]
        rw [ih σ hn.2]
        simp only [LStore.find]
        by_cases h : i = j
        · subst h
          rw [hfj]
          simp [hnot]
        · simp [h]
      | true =>
        simp only [List.filter_cons_of_pos, List.map_cons, Store.app]
        rw [ih _ hn.2]
        simp only [LStore.find]
        by_cases h : i = j
        · subst h
          rw [hfj]
          simp [Store.put]
        · simp [h, Store.put]
  rw [key L σ1 hc.2, h1]
  show _ = L.find i
  cases hf : L.find i with
  | none =>
    simp only [and_true]
    split
    · rfl
    · rename_i h
      cases hl : S.lookup i with
      | none => rfl
      | some b => exact absurd ⟨b, lookup_mem hl⟩ h
  | some b =>
    simp only [reduceCtorEq, and_false, if_false]
    split
    · rfl
    · rename_i h
      obtain ⟨d, hd⟩ := find_mem hf
      cases d with
      | true => exact absurd hd h
      | false => exact hc.1 i b hd
theorem lookup_nodup : ∀ {S : List (Id × Blk)} {x : Id × Blk}, (S.map (·.1)).Nodup → x ∈ S → S.lookup x.1 = some x.2
  | [], x, _, hx => by simp at hx
  | (j, c) :: S, x, hnd, hx => by
    simp only [List.map_cons, List.nodup_cons] at hnd
    rcases List.mem_cons.1 hx with rfl | hx
    · simp
    · have hne : x.1 ≠ j := fun e => hnd.1 (List.mem_map.2 ⟨x, hx, e⟩)
      rw [List.lookup_cons]
      have : (x.1 == j) = false := by simpa using hne
      rw [this]
      exact lookup_nodup hnd.2 hx
theorem evFunc_sound (hX : CallOk P G X) (hT : T.Of P) {R : VCode → Id → LS → Option (VExit × LS)}
    (hR : ∀ c π s e s', R c π s = some (e, s') → VW P G π c (fun e' s2 => e' = e ∧ s2 = s'.to) s.to) (hRc : ∀ S c π s e s', R c π s = some (e, s') → Clean S s.L → Clean S s'.L) :
    CallOk P G (evFunc X R T) := by
  intro f args p L r h
  unfold evFunc at h
  split at h
  · rename_i r' hr'; simp only [Option.some.injEq] at h; subst h; exact hX _ _ _ _ _ hr'
  split at h
  · simp at h
  · rename_i vf hvf
    obtain ⟨fn, hf, hc⟩ := Tab.of_find hT hvf
    simp only [] at h
    generalize hS : reach 1000 L (idsL args) [] = S at h
    have hSL : ∀ x ∈ S, L.to x.1 = some x.2 := by rw [← hS]; exact reach_sub 1000 _ _ (by simp)
    have hnd : (S.map (·.1)).Nodup := by
      rw [← hS]
      have : ∀ (n : Nat) (is : List Id) (S : List (Id × Blk)), (S.map (·.1)).Nodup → ((reach n L is S).map (·.1)).Nodup := by
        intro n
        induction n with
        | zero => intro is S h; exact h
        | succ n ih =>
          intro is S h
          cases is with
          | nil => simpa [reach] using h
          | cons i is =>
            simp only [reach]
            split
            · exact ih is S h
            · rename_i hl
              split
              · refine ih _ _ ?_
                simp only [List.map_cons, List.nodup_cons]
                refine ⟨fun hm => ?_, h⟩
                obtain ⟨x, hx, he⟩ := List.mem_map.1 hm
                rw [List.lookup_eq_none_iff] at hl
                have := hl x hx
                simp [he] at this
              · exact ih is S h
      exact this _ _ _ (by simp)
    have hc0 : Clean S (S.map fun x => (x.1, x.2, false)) := by
      refine ⟨fun i b hm => ?_, by simpa [List.map_map, Function.comp_def] using hnd⟩
      obtain ⟨x, hx, he⟩ := List.mem_map.1 hm
      simp only [Prod.mk.injEq, and_true] at he
      obtain ⟨rfl, rfl⟩ := he
      exact lookup_nodup hnd hx
    have hto : (LStore.to (S.map fun x => (x.1, x.2, false))) = Store.of S := funext fun i => find_init S i
    have fin : ∀ e s, (e = VExit.normal ∨ e = .ret) → R vf.body p ⟨args ++ List.replicate (vf.nt - args.length) (.tup []), S.map fun x => (x.1, x.2, false), 0⟩ = some (e, s) →
        (match outAV vf.results s.to with | some r0 => some ({ val := r0, rd := S.map (·.1), up := ups S (s.L.live (reach 1000 s.L (r0.ids ++ S.map (·.1)) [])) } : Res) | none => none) = some r →
        ∃ S, CallRel P G f args p S r ∧ (∀ x ∈ S, L.to x.1 = some x.2) ∧ ∀ x ∈ S, x.1 ∈ r.rd := by
      intro e s he hrun hout
      split at hout
      · rename_i r0 hr0
        simp only [Option.some.injEq] at hout
        refine ⟨S, CallRel.of_VW hf hc ?_, hSL, fun x hx => by rw [← hout]; exact List.mem_map.2 ⟨x, hx, rfl⟩⟩
        have hv := hR _ _ _ _ _ hrun
        have e0 : (LS.to ⟨args ++ List.replicate (vf.nt - args.length) (.tup []), S.map fun x => (x.1, x.2, false), 0⟩) = ⟨args ++ List.replicate (vf.nt - args.length) (.tup []), Store.of S, 0⟩ := by
          simp only [LS.to, hto]
        rw [e0] at hv
        refine hv.mono fun e' s2 hq => ?_
        obtain ⟨rfl, rfl⟩ := hq
        refine ⟨he, r0, hr0, Fin.same (by rw [← hout]) fun i => ?_⟩
        rw [← hout]
        have hcl := hRc S _ _ _ _ _ hrun hc0
        have h1 := ups_spec (hcl.live (reach 1000 s.L (r0.ids ++ S.map (·.1)) [])) i
        rw [h1]
        rcases LStore.live_find s.L (reach 1000 s.L (r0.ids ++ S.map (·.1)) []) i with h | h
        · exact .inl h
        · exact .inr h
      · simp at hout
    split at h
    · rename_i s hs; exact fin _ s (.inl rfl) hs h
    · rename_i s hs; exact fin _ s (.inr rfl) hs h
    · simp at h
theorem loop_sound {c : VCode} {π : Id} : ∀ (m : Nat), (∀ m' < m, ∀ s s' e, run G X T m' c π s = some (e, s') → VW P G π c (fun e' s2 => e' = e ∧ s2 = s'.to) s.to) →
    ∀ s s' e, run G X T m (.loop c) π s = some (e, s') → ∃ n, VRd P G π c (fun e' s2 => e' = e ∧ s2 = s'.to) n s.to
  | 0, _, _, _, _, h => by simp [run] at h
  | m + 1, hb, s, s', e, h => by
    simp only [run] at h
    split at h
    · rename_i s1 h1
      obtain ⟨n, hn⟩ := loop_sound m (fun m' hm => hb m' (by omega)) s1 s' e h
      refine ⟨n + 1, (hb m (by omega) s s1 _ h1).mono fun e' s2 hq => ?_⟩
      obtain ⟨rfl, rfl⟩ := hq
      exact hn
    · rename_i h1
      refine ⟨1, (hb m (by omega) s s' e h).mono fun e' s2 hq => ?_⟩
      obtain ⟨rfl, rfl⟩ := hq
      cases e' with
      | normal => exact absurd h (h1 _)
      | exit i => exact ⟨rfl, rfl⟩
      | ret => exact ⟨rfl, rfl⟩
theorem run_sound (hX : CallOk P G X) (hT : T.Of P) : ∀ (m : Nat) (c : VCode) (π : Id) (s s' : LS) (e : VExit), run G X T m c π s = some (e, s') → VW P G π c (fun e' s2 => e' = e ∧ s2 = s'.to) s.to
  | 0, _, _, _, _, _, h => by simp [run] at h
  | m + 1, c, π, s, s', e, h => by
    cases c with
    | skip => simp only [run, Option.some.injEq, Prod.mk.injEq] at h; obtain ⟨rfl, rfl⟩ := h; exact VW.skip ⟨rfl, rfl⟩
    | ret => simp only [run, Option.some.injEq, Prod.mk.injEq] at h; obtain ⟨rfl, rfl⟩ := h; exact VW.ret ⟨rfl, rfl⟩
    | exit i => simp only [run, Option.some.injEq, Prod.mk.injEq] at h; obtain ⟨rfl, rfl⟩ := h; exact VW.exit ⟨rfl, rfl⟩
    | seq a b =>
      simp only [run] at h
      refine VW.seq ?_
      split at h
      · rename_i s1 h1
        refine (run_sound hX hT m a π s s1 _ h1).mono fun e' s2 hq => ?_
        obtain ⟨rfl, rfl⟩ := hq
        exact run_sound hX hT m b π s1 s' e h
      · rename_i h1
        refine (run_sound hX hT m a π s s' e h).mono fun e' s2 hq => ?_
        obtain ⟨rfl, rfl⟩ := hq
        cases e' with
        | normal => exact absurd h (h1 _)
        | exit i => exact ⟨rfl, rfl⟩
        | ret => exact ⟨rfl, rfl⟩
    | cond c a b =>
      simp only [run] at h
      split at h
      · rename_i hb; exact VW.cond hb (by simpa using run_sound hX hT m a π s s' e h)
      · rename_i hb; exact VW.cond hb (by simpa using run_sound hX hT m b π s s' e h)
      · simp at h
    | block i c =>
      simp only [run] at h
      refine VW.block ?_
      split at h
      · rename_i j s1 h1
        refine (run_sound hX hT m c π s s1 _ h1).mono fun e' s2 hq => ?_
        obtain ⟨rfl, rfl⟩ := hq
        simp only []
        split at h
        · rename_i hj; simp only [Option.some.injEq, Prod.mk.injEq] at h; obtain ⟨rfl, rfl⟩ := h; simp [hj]
        · rename_i hj; simp only [Option.some.injEq, Prod.mk.injEq] at h; obtain ⟨rfl, rfl⟩ := h; simp [hj]
      · rename_i h1
        refine (run_sound hX hT m c π s s' e h).mono fun e' s2 hq => ?_
        obtain ⟨rfl, rfl⟩ := hq
        cases e' with
        | normal => exact ⟨rfl, rfl⟩
        | exit i => exact absurd h (h1 _ _)
        | ret => exact ⟨rfl, rfl⟩
    | loop c =>
      obtain ⟨n, hn⟩ := loop_sound (m + 1) (fun m' hm s s' e hr => run_sound hX hT m' c π s s' e hr) s s' e h
      exact VW.rounds n hn
    | reg ps os =>
      simp only [run] at h
      have hC : CallOk P G (evFunc X (run G X T m) T) := evFunc_sound hX hT (fun c π s e s' hr => run_sound hX hT m c π s s' e hr) (fun _ c π s e s' hr => run_clean m c π s s' e hr)
      split at h
      · simp at h
      · rename_i rs t L h1
        cases ps with
        | none =>
          simp only [Option.some.injEq, Prod.mk.injEq] at h
          obtain ⟨rfl, rfl⟩ := h
          exact VW.seqReg (evOps_seq hC ⟨rfl, rfl⟩ os _ _ _ _ h1)
        | some ps =>
          simp only [] at h
          split at h
          · rename_i hap
            simp only [Option.some.injEq, Prod.mk.injEq] at h
            obtain ⟨rfl, rfl⟩ := h
            exact VW.parReg (evOps_par hC ⟨allApartB_spec hap, rfl, rfl⟩ os _ _ _ _ h1)
          · simp at h
  termination_by m => m
theorem call_run (hX : CallOk P G X) (hT : T.Of P) (m : Nat) {f : FuncId} {args : List AV} {p : Id} {L : LStore} {r : Res} (h : evFunc X (run G X T m) T f args p L = some r) :
    ∃ S, CallRel P G f args p S r ∧ (∀ x ∈ S, L.to x.1 = some x.2) ∧ ∀ x ∈ S, x.1 ∈ r.rd :=
  evFunc_sound hX hT (fun c π s e s' hr => run_sound hX hT m c π s s' e hr) (fun _ c π s e s' hr => run_clean m c π s s' e hr) f args p L r h
end
end Go.VL
end

section
namespace Go.VL
open Go.RowKit
theorem CallRel.of_below {P : Program} {G : Nat → Option (List AV)} {f : FuncId} {fn : Func} (hf : P.funcs[f]? = some fn) (hname : (fn.name == "runtime.NumGoroutine") = false) (hb : fn.body.isSome = true) {args : List AV} {p : Id} {S : List (Id × Blk)} {val : AV} {rd : List Id}
    (h : ∀ own E w σ vs, (∀ x ∈ S, σ x.1 = some x.2) → Inv G own E w σ → RepL E w args vs → Calls P f vs.toArray w fun e w' => ∃ v, e = .returned v ∧ Below w.heap.size w w' ∧ FlatAV0 val v) :
    CallRel P G f args p S { val, rd } := by
  refine ⟨⟨fn, hf, hname, hb⟩, fun own E w σ vs hS hi hr _ => (h own E w σ vs hS hi hr).mono fun e w' he => ?_⟩
  obtain ⟨v, rfl, hB, hv⟩ := he
  have hadv : Adv own E E w w' := ⟨⟨fun _ _ h => h, fun _ h => h, fun b hb => hB.block b (hi.okb b hb)⟩, hB.os, hB.tape, hB.output, hB.size, fun k hk _ => hB.block k hk, fun _ h => .inl h⟩
  refine ⟨v, E, rfl, hadv, ?_, hv E w', fun _ _ => rfl⟩
  refine hi.keep hadv rfl (fun b hb => Nat.lt_of_lt_of_le (hi.okb b hb) hB.size) fun id bk g N hs hm => ?_
  obtain ⟨g', N', cur, ty, hB2⟩ := hi.blk id bk hs
  rw [hB2.μ] at hm
  simp only [Option.some.injEq, Prod.mk.injEq] at hm
  obtain ⟨rfl, _, rfl⟩ := hm
  exact ⟨hB.block _ (cells_lt hB2.heap), hB2.no⟩
theorem ints_row {G : Nat → Option (List AV)} {own : Nat → Prop} {E : Env} {w : World} {σ : Store} (hi : Inv G own E w σ) {x : AV} {v : Value} (hx : Rep E w x v) {k : IntKind} {zs : List Int} {rd : List Id} (h : elemsOf σ 1 x = some (zs.map (AV.int k), rd)) :
    ∃ a cap, v = .slice a zs.length cap ∧ zs.length ≤ cap ∧ (zs = [] ∨ ∃ b o, a = some ⟨b, o, none⟩ ∧ b < w.heap.size ∧ ∀ j, j < zs.length → w.cell? ⟨b, o + j, none⟩ = some (.int k (zs[j]?.getD 0))) := by
  obtain ⟨_, a, cap, rfl, hle, hr⟩ := elems_rep hi hx h
  refine ⟨a, cap, by simp, by simpa using hle, ?_⟩
  rcases hr with hr | ⟨b, o, rfl, hr⟩
  · left; simpa using hr
  · cases zs with
    | nil => exact .inl rfl
    | cons z zs =>
      right
      have hfl : flat ((z :: zs).map (AV.int k)) = (z :: zs).map (AV.int k) := by
        generalize z :: zs = l
        induction l with
        | nil => rfl
        | cons y l ih => simp only [List.map_cons, flat, List.flatMap_cons, AV.cells] at ih ⊢; rw [ih]; rfl
      rw [hfl] at hr
      have hc : ∀ j, j < (z :: zs).length → w.cell? ⟨b, o + j, none⟩ = some (.int k ((z :: zs)[j]?.getD 0)) := by
        intro j hj
        obtain ⟨v, h1, h2⟩ := hr j (.int k (z :: zs)[j]) (by rw [List.getElem?_map, List.getElem?_eq_getElem hj]; rfl)
        simp only [Rep] at h2
        subst h2
        rw [h1, List.getElem?_eq_getElem hj]; rfl
      refine ⟨b, o, rfl, ?_, hc⟩
      have := hc 0 (by simp)
      cases hh : w.heap[b]? with
      | none => simp [World.cell?, hh] at this
      | some ob => exact (Array.getElem?_eq_some_iff.1 hh).1
end Go.VL
end

section
namespace Go.VL
def Blk.fz (b : Blk) : Blk := { b with fr := true }
def frz (S : List (Id × Blk)) : List (Id × Option Blk) := S.map fun x => (x.1, some x.2.fz)
open Classical in
theorem app_frz {σ : Store} (i : Id) : ∀ (S : List (Id × Blk)) (σ0 : Store), (∀ x ∈ S, σ x.1 = some x.2) → σ0.app (frz S) i = if ∃ x ∈ S, x.1 = i then (σ i).map Blk.fz else σ0 i
  | [], σ0, _ => by simp [frz, Store.app]
  | x :: S, σ0, h => by
    show Store.app (σ0.put x.1 (some x.2.fz)) (frz S) i = _
    rw [app_frz i S _ fun y hy => h y (List.mem_cons_of_mem _ hy)]
    by_cases h1 : ∃ y ∈ S, y.1 = i
    · rw [if_pos h1, if_pos]
      obtain ⟨y, hy, e⟩ := h1
      exact ⟨y, List.mem_cons_of_mem _ hy, e⟩
    · rw [if_neg h1]
      by_cases h2 : i = x.1
      · subst h2
        rw [if_pos ⟨x, by simp, rfl⟩, h x (by simp), Store.put_same]; rfl
      · rw [if_neg, Store.put_other _ _ _ h2]
        rintro ⟨y, hy, e⟩
        rcases List.mem_cons.1 hy with rfl | hy
        · exact h2 e.symm
        · exact h1 ⟨y, hy, e⟩
theorem of_of_mem {S : List (Id × Blk)} {σ : Store} (hS : ∀ x ∈ S, σ x.1 = some x.2) {x : Id × Blk} (hx : x ∈ S) : Store.of S x.1 = some x.2 := by
  cases hl : S.lookup x.1 with
  | none =>
    rw [List.lookup_eq_none_iff] at hl
    have := hl x hx
    simp at this
  | some b =>
    have := hS _ (lookup_mem hl)
    rw [hS x hx] at this
    show S.lookup x.1 = _
    rw [hl]; exact this.symm
section
variable {P : Program} {G : Nat → Option (List AV)}
theorem Inv.froze {own : Nat → Prop} {E : Env} {w : World} {σ : Store} {S : List (Id × Blk)} (hi : Inv G own E w σ) (hS : ∀ x ∈ S, σ x.1 = some x.2) :
    Inv G (fun k => w.heap.size ≤ k) (E.froze (Store.of S)) w (fun _ => none) where
  okb := by
    rintro b (hb | ⟨id, bk, k, N, hs, hm⟩)
    · exact hi.okb b hb
    · obtain ⟨g, N', cur, ty, hB⟩ := hi.blk id bk (hS _ (lookup_mem hs))
      rw [hB.μ] at hm
      simp only [Option.some.injEq, Prod.mk.injEq] at hm
      rw [← hm.1]; exact cells_lt hB.heap
  blk := fun id bk h => by simp at h
  inj := fun i j x y h => absurd rfl h
  glob := fun g cs hg => by
    obtain ⟨h1, h2⟩ := hi.glob g cs hg
    exact ⟨.inl h1, RepCells.keep (⟨fun _ _ h => h, fun _ h => .inl h, fun _ _ => rfl⟩ : Step E.bare (E.froze (Store.of S)).bare w w) rfl cs 0 h2⟩
  new := fun k hk => hk
theorem CallRel.of_view {f : FuncId} {args args' : List AV} {r : AV} {p : Id} {S : List (Id × Blk)} (h : VP P G f args' r) (hv : ViewL (Store.of S) args args') :
    CallRel P G f args p S { val := r, rd := S.map (·.1), up := frz S } := by
  refine ⟨h.1, fun own E w σ vs hS hi hr hμ => ?_⟩
  have hr' := hv.repL (hi.sub (Store.of_sub hS)) hr
  refine (h.2 w vs _ (hi.froze hS) hr').mono fun e w' he => ?_
  obtain ⟨v, ok', rfl, had, hok, hv'⟩ := he
  have hadv : Adv own E ⟨E.μ, ok'⟩ w w' := by
    refine ⟨⟨fun _ _ h => h, fun b hb => had.step.ok b (.inl hb), fun b hb => had.step.same b (.inl hb)⟩, had.os, had.tape, had.output, had.size, fun k hk _ => had.block k hk (by omega), fun b hb => ?_⟩
    rcases had.okn b hb with (h1 | ⟨id, bk, k, N, hs, hm⟩) | h1
    · exact .inl h1
    · obtain ⟨g, N', cur, ty, hB⟩ := hi.blk id bk (hS _ (lookup_mem hs))
      rw [hB.μ] at hm
      simp only [Option.some.injEq, Prod.mk.injEq] at hm
      rw [← hm.1]; exact .inr hB.own
    · exact .inr (hi.new b h1)
  refine ⟨v, ⟨E.μ, ok'⟩, rfl, hadv, ?_, Rep.keep (⟨fun _ _ h => by simp at h, fun _ h => h, fun _ _ => rfl⟩ : Step ⟨fun _ => none, ok'⟩ ⟨E.μ, ok'⟩ w' w') r v hv', fun _ _ => rfl⟩
  have happ := fun i => app_frz (σ := σ) i S σ hS
  refine ⟨hok, fun id bk hs => ?_, fun i j x y hi' hj' hne hx hy => ?_, fun g cs hg => ?_, fun k hk => hi.new k (Nat.le_trans had.size hk)⟩
  · have hs' : σ.app (frz S) id = some bk := hs
    rw [happ id] at hs'
    split at hs'
    · rename_i hin
      obtain ⟨x, hx, rfl⟩ := hin
      rw [hS x hx] at hs'
      simp only [Option.map_some, Option.some.injEq] at hs'
      subst hs'
      obtain ⟨g, N, cur, ty, hB⟩ := hi.blk _ _ (hS x hx)
      have hb := had.block g (cells_lt hB.heap) (by have := cells_lt hB.heap; omega)
      exact ⟨g, N, cur, ty, hB.μ, hb.trans hB.heap, hB.size, hB.len, hB.most, hB.own, fun _ => had.step.ok g (.inr ⟨x.1, x.2, x.2.k, N, of_of_mem hS hx, hB.μ⟩), fun hf => by simp [Blk.fz] at hf, hB.k, RepAt.keep hadv.step hb hB.row⟩
    · rename_i hnin
      obtain ⟨g, N, cur, ty, hB⟩ := hi.blk _ _ hs'
      have hg := cells_lt hB.heap
      refine ⟨g, N, cur, ty, hB.keep hadv.step (had.block g hg (by omega)) fun hf hb => ?_⟩
      rcases had.okn g hb with (h1 | ⟨id2, bk2, k2, N2, hs2, hm2⟩) | h1
      · exact hB.no hf h1
      · have hm := lookup_mem hs2
        refine hi.inj id id2 _ _ (by simp [hs']) (by simp [hS _ hm]) ?_ hB.μ hm2 rfl
        rintro rfl
        exact hnin ⟨_, hm, rfl⟩
      · omega
  · have keep : ∀ i, σ.app (frz S) i ≠ none → σ i ≠ none := by
      intro i hn he
      apply hn
      rw [happ i, he]
      split <;> rfl
    exact hi.inj i j x y (keep i hi') (keep j hj') hne hx hy
  · obtain ⟨h1, h2⟩ := hi.glob g cs hg
    exact ⟨hadv.step.ok g h1, RepCells.keep hadv.step.bare (hadv.step.same g h1) cs 0 h2⟩
theorem CallRel.of_flat {f : FuncId} {args args' : List AV} {r : AV} {p : Id} {S : List (Id × Blk)} (h : VP P G f args' r) (hv : ViewL (Store.of S) args args') (hf : FlatAV r) :
    CallRel P G f args p S { val := r, rd := S.map (·.1) } := by
  refine ⟨h.1, fun own E w σ vs hS hi hr hμ => ?_⟩
  have hr' := hv.repL (hi.sub (Store.of_sub hS)) hr
  refine (h.2 w vs _ (hi.froze hS) hr').mono fun e w' he => ?_
  obtain ⟨v, ok', rfl, had, hok, hv'⟩ := he
  have hadv : Adv own E E w w' := ⟨⟨fun _ _ h => h, fun b hb => hb, fun b hb => had.step.same b (.inl hb)⟩, had.os, had.tape, had.output, had.size, fun k hk _ => had.block k hk (by omega), fun b hb => .inl hb⟩
  refine ⟨v, E, rfl, hadv, ?_, hf _ _ _ _ _ hv', fun _ _ => rfl⟩
  refine hi.keep hadv rfl (fun b hb => Nat.lt_of_lt_of_le (hi.okb b hb) had.size) fun id bk g N hs hm => ?_
  obtain ⟨g', N', cur, ty, hB2⟩ := hi.blk id bk hs
  rw [hB2.μ] at hm
  simp only [Option.some.injEq, Prod.mk.injEq] at hm
  obtain ⟨rfl, _, rfl⟩ := hm
  have hg := cells_lt hB2.heap
  exact ⟨had.block _ hg (by omega), hB2.no⟩
def FgV (S : List (Id × Blk)) : List AV → List AV → Prop
  | [], [] => True
  | c :: cs, d :: ds => (d = .top ∨ d = c ∨ View (Store.of S) c d) ∧ FgV S cs ds
  | _, _ => False
theorem FgV.rep {own : Nat → Prop} {E : Env} {w : World} {S : List (Id × Blk)} (hi : Inv G own E w (Store.of S)) : ∀ {cs ds : List AV} {vs : List Value}, FgV S cs ds → RepL E w cs vs → RepL ⟨E.μ, (E.froze (Store.of S)).ok⟩ w ds vs
  | [], [], _, _, h => by simpa [RepL] using h
  | c :: cs, d :: ds, vs, hf, h => by
    simp only [FgV] at hf
    simp only [RepL] at h ⊢
    obtain ⟨v, rest, e, h1, h2⟩ := h
    refine ⟨v, rest, e, ?_, FgV.rep hi hf.2 h2⟩
    rcases hf.1 with rfl | rfl | hv
    · simp [Rep]
    · exact Rep.keep (⟨fun _ _ h => h, fun _ h => .inl h, fun _ _ => rfl⟩ : Step E ⟨E.μ, (E.froze (Store.of S)).ok⟩ w w) _ v h1
    · exact Rep.keep (⟨fun _ _ h => by simp [Env.froze] at h, fun _ h => h, fun _ _ => rfl⟩ : Step (E.froze (Store.of S)) ⟨E.μ, (E.froze (Store.of S)).ok⟩ w w) _ v (hv _ _ _ _ _ hi h1)
  | [], _ :: _, _, h, _ => by simp [FgV] at h
  | _ :: _, [], _, h, _ => by simp [FgV] at h
theorem Wk.freeze {π : Id} {t t' : List AV} {σ σ' : Store} {n n' : Nat} (S : List (Id × Blk)) (hS : ∀ x ∈ S, σ x.1 = some x.2) (ht : FgV S t t')
    (hs : ∀ id, σ' id = none ∨ σ' id = σ.app (frz S) id) (hn : n ≤ n') : Wk G π ⟨t, σ, n⟩ ⟨t', σ', n'⟩ := fun own E w a hm => by
  have hi := hm.inv
  let E' : Env := ⟨E.μ, (E.froze (Store.of S)).ok⟩
  have hadv : Adv own E E' w w := by
    refine ⟨⟨fun _ _ h => h, fun b hb => .inl hb, fun b hb => rfl⟩, rfl, rfl, rfl, Nat.le_refl _, fun k hk _ => rfl, fun b hb => ?_⟩
    rcases hb with h1 | ⟨id, bk, k, N, hs, hm⟩
    · exact .inl h1
    · obtain ⟨g, N', cur, ty, hB⟩ := hi.blk id bk (hS _ (lookup_mem hs))
      rw [hB.μ] at hm
      simp only [Option.some.injEq, Prod.mk.injEq] at hm
      rw [← hm.1]; exact .inr hB.own
  refine ⟨E', ⟨hadv, fun _ _ => rfl⟩, ht.rep (hi.sub (Store.of_sub hS)) hm.frame, ?_, hm.free.mono hn, hm.defers⟩
  refine Inv.sub (σ := σ.app (frz S)) ?_ hs
  have happ := fun i => app_frz (σ := σ) i S σ hS
  refine ⟨(hi.froze hS).okb, fun id bk hs => ?_, fun i j x y hi' hj' hne hx hy => ?_, fun g cs hg => ?_, hi.new⟩
  · have hs' : σ.app (frz S) id = some bk := hs
    rw [happ id] at hs'
    split at hs'
    · rename_i hin
      obtain ⟨x, hx, rfl⟩ := hin
      rw [hS x hx] at hs'
      simp only [Option.map_some, Option.some.injEq] at hs'
      subst hs'
      obtain ⟨g, N, cur, ty, hB⟩ := hi.blk _ _ (hS x hx)
      exact ⟨g, N, cur, ty, hB.μ, hB.heap, hB.size, hB.len, hB.most, hB.own, fun _ => .inr ⟨x.1, x.2, x.2.k, N, of_of_mem hS hx, hB.μ⟩, fun hf => by simp [Blk.fz] at hf, hB.k, RepAt.keep hadv.step rfl hB.row⟩
    · rename_i hnin
      obtain ⟨g, N, cur, ty, hB⟩ := hi.blk _ _ hs'
      have hg := cells_lt hB.heap
      refine ⟨g, N, cur, ty, hB.keep hadv.step rfl fun hf hb => ?_⟩
      rcases hb with h1 | ⟨id2, bk2, k2, N2, hs2, hm2⟩
      · exact hB.no hf h1
      · have hm := lookup_mem hs2
        refine hi.inj id id2 _ _ (by simp [hs']) (by simp [hS _ hm]) ?_ hB.μ hm2 rfl
        rintro rfl
        exact hnin ⟨_, hm, rfl⟩
  · have keep : ∀ i, σ.app (frz S) i ≠ none → σ i ≠ none := by
      intro i hn he
      apply hn
      rw [happ i, he]
      split <;> rfl
    exact hi.inj i j x y (keep i hi') (keep j hj') hne hx hy
  · obtain ⟨h1, h2⟩ := hi.glob g cs hg
    exact ⟨hadv.step.ok g h1, RepCells.keep hadv.step.bare (hadv.step.same g h1) cs 0 h2⟩
end
end Go.VL
end

section
namespace Go.VL
def fnB : Fn → Fn → Bool
  | .func a, .func b => a == b
  | _, _ => false
theorem fnB_eq : ∀ {a b : Fn}, fnB a b = true → a = b := by
  intro a b h
  cases a <;> cases b <;> simp [fnB] at h
  subst h; rfl
mutual
def avB : AV → AV → Bool
  | .bool a, .bool b => a == b
  | .int k n, .int k' n' => decide (k = k') && n == n'
  | .str a, .str b => a == b
  | .nilp, .nilp => true
  | .nilf, .nilf => true
  | .fn f a c, .fn f' a' c' => fnB f f' && avBL a a' && avBL c c'
  | .agg a, .agg b => avBL a b
  | .tup a, .tup b => avBL a b
  | .sl k a, .sl k' b => k == k' && avBL a b
  | .tsl k a, .tsl k' b => k == k' && avBL a b
  | .nils, .nils => true
  | .osl i k o l t, .osl i' k' o' l' t' => i == i' && k == k' && o == o' && l == l' && t == t'
  | .ref i e o, .ref i' e' o' => i == i' && e == e' && o == o'
  | .ep a o, .ep b o' => avBL a b && o == o'
  | .top, .top => true
  | .anyb, .anyb => true
  | .ige n, .ige m => n == m
  | _, _ => false
def avBL : List AV → List AV → Bool
  | [], [] => true
  | a :: as, b :: bs => avB a b && avBL as bs
  | _, _ => false
end
mutual
theorem avB_eq : ∀ {a b : AV}, avB a b = true → a = b
  | .bool a, b, h => by cases b <;> simp [avB] at h; subst h; rfl
  | .int k n, b, h => by cases b <;> simp [avB] at h; obtain ⟨rfl, rfl⟩ := h; rfl
  | .str a, b, h => by cases b <;> simp [avB] at h; subst h; rfl
  | .nilp, b, h => by cases b <;> simp [avB] at h; rfl
  | .nilf, b, h => by cases b <;> simp [avB] at h; rfl
  | .fn f a c, b, h => by
    cases b <;> simp [avB] at h
    obtain ⟨⟨h1, h2⟩, h3⟩ := h
    rw [fnB_eq h1, avBL_eq h2, avBL_eq h3]
  | .agg a, b, h => by cases b <;> simp [avB] at h; rw [avBL_eq h]
  | .tup a, b, h => by cases b <;> simp [avB] at h; rw [avBL_eq h]
  | .sl k a, b, h => by cases b <;> simp [avB] at h; obtain ⟨rfl, h⟩ := h; rw [avBL_eq h]
  | .tsl k a, b, h => by cases b <;> simp [avB] at h; obtain ⟨rfl, h⟩ := h; rw [avBL_eq h]
  | .nils, b, h => by cases b <;> simp [avB] at h; rfl
  | .osl i k o l t, b, h => by cases b <;> simp [avB] at h; obtain ⟨⟨⟨⟨rfl, rfl⟩, rfl⟩, rfl⟩, rfl⟩ := h; rfl
  | .ref i e o, b, h => by cases b <;> simp [avB] at h; obtain ⟨⟨rfl, rfl⟩, rfl⟩ := h; rfl
  | .ep a o, b, h => by cases b <;> simp [avB] at h; obtain ⟨h, rfl⟩ := h; rw [avBL_eq h]
  | .top, b, h => by cases b <;> simp [avB] at h; rfl
  | .anyb, b, h => by cases b <;> simp [avB] at h; rfl
  | .ige n, b, h => by cases b <;> simp [avB] at h; subst h; rfl
theorem avBL_eq : ∀ {a b : List AV}, avBL a b = true → a = b
  | [], [], _ => rfl
  | x :: xs, y :: ys, h => by simp only [avBL, Bool.and_eq_true] at h; rw [avB_eq h.1, avBL_eq h.2]
  | [], _ :: _, h => by simp [avBL] at h
  | _ :: _, [], h => by simp [avBL] at h
end
def blkB (a b : Blk) : Bool := avBL a.els b.els && a.k == b.k && a.fr == b.fr
theorem blkB_eq {a b : Blk} (h : blkB a b = true) : a = b := by
  obtain ⟨x, y, z⟩ := a; obtain ⟨x', y', z'⟩ := b
  simp only [blkB, Bool.and_eq_true, beq_iff_eq] at h
  obtain ⟨⟨h1, rfl⟩, rfl⟩ := h
  rw [avBL_eq h1]
def stB : List (Id × Blk) → List (Id × Blk) → Bool
  | [], [] => true
  | (i, a) :: as, (j, b) :: bs => i == j && blkB a b && stB as bs
  | _, _ => false
theorem stB_eq : ∀ {a b : List (Id × Blk)}, stB a b = true → a = b
  | [], [], _ => rfl
  | (i, x) :: xs, (j, y) :: ys, h => by
    simp only [stB, Bool.and_eq_true, beq_iff_eq] at h
    obtain ⟨⟨rfl, h1⟩, h2⟩ := h
    rw [blkB_eq h1, stB_eq h2]
  | [], _ :: _, h => by simp [stB] at h
  | _ :: _, [], h => by simp [stB] at h
structure Memo where
  f : FuncId
  p : Id
  args : List AV
  S : List (Id × Blk)
  r : Res
def askMemo (ms : List Memo) (f : FuncId) (args : List AV) (p : Id) (L : LStore) : Option Res :=
  match ms with
  | [] => none
  | m :: ms => if m.f = f ∧ m.p = p ∧ avBL m.args args = true ∧ stB m.S (reach 1000 L (idsL args) []) = true then some m.r else askMemo ms f args p L
def MemoOk (P : Program) (G : Nat → Option (List AV)) (m : Memo) : Prop := ∃ S, CallRel P G m.f m.args m.p S m.r ∧ (∀ x ∈ S, Store.of m.S x.1 = some x.2) ∧ ∀ x ∈ S, x.1 ∈ m.r.rd
theorem askMemo_ok {P : Program} {G : Nat → Option (List AV)} : ∀ {ms : List Memo}, (∀ m ∈ ms, MemoOk P G m) → CallOk P G (askMemo ms)
  | [], _, _, _, _, _, _, h => by simp [askMemo] at h
  | m :: ms, hm, f, args, p, L, r, h => by
    simp only [askMemo] at h
    split at h
    · rename_i hh
      obtain ⟨rfl, rfl, h1, h2⟩ := hh
      simp only [Option.some.injEq] at h; subst h
      have e1 := avBL_eq h1; subst e1
      have e2 := stB_eq h2
      obtain ⟨S, h3, h4, h5⟩ := hm m (by simp)
      exact ⟨S, h3, fun x hx => by have := lookup_mem (h4 x hx); rw [e2] at this; exact reach_sub 1000 _ _ (by simp) _ this, h5⟩
    · exact askMemo_ok (fun x hx => hm x (List.mem_cons_of_mem _ hx)) f args p L r h
def upB : List (Id × Option Blk) → List (Id × Option Blk) → Bool
  | [], [] => true
  | (i, some a) :: as, (j, some b) :: bs => i == j && blkB a b && upB as bs
  | (i, none) :: as, (j, none) :: bs => i == j && upB as bs
  | _, _ => false
theorem upB_eq : ∀ {a b : List (Id × Option Blk)}, upB a b = true → a = b
  | [], [], _ => rfl
  | (i, some x) :: xs, (j, some y) :: ys, h => by
    simp only [upB, Bool.and_eq_true, beq_iff_eq] at h
    obtain ⟨⟨rfl, h1⟩, h2⟩ := h
    rw [blkB_eq h1, upB_eq h2]
  | (i, none) :: xs, (j, none) :: ys, h => by
    simp only [upB, Bool.and_eq_true, beq_iff_eq] at h
    obtain ⟨rfl, h2⟩ := h
    rw [upB_eq h2]
  | (_, some _) :: _, (_, none) :: _, h => by simp [upB] at h
  | (_, none) :: _, (_, some _) :: _, h => by simp [upB] at h
  | [], _ :: _, h => by simp [upB] at h
  | (_, some _) :: _, [], h => by simp [upB] at h
  | (_, none) :: _, [], h => by simp [upB] at h
def resB (o : Option Res) (r : Res) : Bool := match o with
  | some x => avB x.val r.val && x.rd == r.rd && upB x.up r.up
  | none => false
theorem resB_eq {o : Option Res} {r : Res} (h : resB o r = true) : o = some r := by
  unfold resB at h
  split at h
  · rename_i x
    obtain ⟨a, b, c⟩ := x; obtain ⟨a', b', c'⟩ := r
    simp only [Bool.and_eq_true, beq_iff_eq] at h
    obtain ⟨⟨h1, rfl⟩, h3⟩ := h
    rw [avB_eq h1, upB_eq h3]
  · simp at h
theorem MemoOk.run {P : Program} {G : Nat → Option (List AV)} {X : FuncId → List AV → Id → LStore → Option Res} (hX : CallOk P G X) {T : Tab} (hT : T.Of P) (n : Nat) (m : Memo)
    (h : resB (evFunc X (run G X T n) T m.f m.args m.p (m.S.map fun x => (x.1, x.2, false))) m.r = true) : MemoOk P G m := by
  obtain ⟨S, h1, h2, h3⟩ := call_run hX hT n (resB_eq h)
  exact ⟨S, h1, fun x hx => by have := h2 x hx; rwa [show LStore.to (m.S.map fun x => (x.1, x.2, false)) = Store.of m.S from funext fun i => find_init m.S i] at this, h3⟩
theorem CallOk.or {P : Program} {G : Nat → Option (List AV)} {A B : FuncId → List AV → Id → LStore → Option Res} (ha : CallOk P G A) (hb : CallOk P G B) :
    CallOk P G fun f args p L => match A f args p L with | some r => some r | none => B f args p L := by
  intro f args p L r h
  simp only [] at h
  split at h
  · rename_i r' hr; simp only [Option.some.injEq] at h; subst h; exact ha _ _ _ _ _ hr
  · exact hb _ _ _ _ _ h
end Go.VL
end

section
namespace Go.VL
section
variable {P : Program} {G : Nat → Option (List AV)}
theorem VP.of_call {f : FuncId} {args : List AV} {r : Res} (h : CallRel P G f args [] [] r) (hf : FlatAV r.val) : VP P G f args r.val := by
  refine ⟨h.1, fun w vs ok hi hr => ?_⟩
  refine (h.2 _ _ w _ vs (by simp) hi hr (fun _ _ => rfl)).mono fun e w' he => ?_
  obtain ⟨v, E', rfl, hp⟩ := he
  refine ⟨v, ok, rfl, ⟨⟨fun _ _ h => h, fun _ h => h, hp.adv.step.same⟩, hp.adv.os, hp.adv.tape, hp.adv.output, hp.adv.size, hp.adv.block, fun _ h => .inl h⟩, fun b hb => ?_, hf _ _ _ _ _ hp.rep⟩
  exact Nat.lt_of_lt_of_le (hi.okb b hb) hp.adv.size
theorem VP.of_memo {m : Memo} (h : MemoOk P G m) (hS : m.S = []) (hp : m.p = []) (hf : FlatAV m.r.val) : VP P G m.f m.args m.r.val := by
  obtain ⟨S, h1, h2, _⟩ := h
  have : S = [] := by
    cases S with
    | nil => rfl
    | cons x S => have := h2 x (by simp); rw [hS] at this; simp [Store.of] at this
  subst this
  rw [hp] at h1
  exact VP.of_call h1 hf
end
end Go.VL
end
