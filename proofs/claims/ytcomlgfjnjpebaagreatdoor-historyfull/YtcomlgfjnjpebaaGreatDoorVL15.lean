/- The V-layer, part 15: whatever order is drawn comes to what the text's order comes to. -/
import Derived.Test.YtcomlgfjnjpebaaGreatDoorVL14
namespace Go.VL

theorem foldT_ext {X Y : Nat → Bool} : ∀ (L : List Done) (i : Nat) (t : List AV), (∀ k, k < L.length → X (i + k) = Y (i + k)) → foldT X L i t = foldT Y L i t
  | [], _, _, _ => rfl
  | (d, r) :: L, i, t, h => by
    simp only [foldT]
    have h0 := h 0 (by simp)
    rw [Nat.add_zero] at h0
    rw [h0]
    exact foldT_ext L (i + 1) _ (fun k hk => by rw [show i + 1 + k = i + (k + 1) from by omega]; exact h (k + 1) (by simpa using hk))

theorem foldS_ext {X Y : Nat → Bool} : ∀ (L : List Done) (i : Nat) (σ : Store), (∀ k, k < L.length → X (i + k) = Y (i + k)) → foldS X L i σ = foldS Y L i σ
  | [], _, _, _ => rfl
  | (d, r) :: L, i, t, h => by
    simp only [foldS]
    have h0 := h 0 (by simp)
    rw [Nat.add_zero] at h0
    rw [h0]
    exact foldS_ext L (i + 1) _ (fun k hk => by rw [show i + 1 + k = i + (k + 1) from by omega]; exact h (k + 1) (by simpa using hk))

theorem countP_lt {X Y : Nat → Bool} {i : Nat} (hX : X i = false) (hY : Y i = true) (hXY : ∀ k, X k = true → Y k = true) : ∀ (l : List Nat), i ∈ l → l.countP X < l.countP Y
  | [], h => by simp at h
  | a :: l, h => by
    have hle : l.countP X ≤ l.countP Y := List.countP_mono_left fun x _ hx => hXY x hx
    simp only [List.countP_cons]
    rcases List.mem_cons.1 h with rfl | h
    · simp [hX, hY]; omega
    · have := countP_lt hX hY hXY l h
      by_cases ha : X a = true
      · simp [ha, hXY a ha]; omega
      · simp [ha]; split <;> omega

theorem countP_all {X : Nat → Bool} : ∀ (l : List Nat), l.length ≤ l.countP X → ∀ i ∈ l, X i = true
  | [], _, i, h => by simp at h
  | a :: l, hc, i, h => by
    have hle := List.countP_le_length (p := X) (l := l)
    simp only [List.countP_cons, List.length_cons] at hc
    by_cases ha : X a = true
    · simp only [ha, if_true] at hc
      rcases List.mem_cons.1 h with rfl | h
      · exact ha
      · exact countP_all l (by omega) i h
    · simp [ha] at hc; omega

section
variable {P : Program} {G : Nat → Option (List AV)} {own : Nat → Prop}

theorem mem_allPairs {n i j : Nat} (hij : i < j) (hj : j < n) : (i, j) ∈ allPairs n := by
  unfold allPairs
  rw [List.mem_flatMap]
  exact ⟨j, List.mem_range.2 hj, List.mem_map.2 ⟨i, List.mem_range.2 hij, rfl⟩⟩

/-- What has been done after the operations of X, in a run of any order. -/
structure Mid (G : Nat → Option (List AV)) (π : Id) (own : Nat → Prop) (L : List Done) (base n : Nat) (t0 : List AV) (σ0 : Store) (a0 : Act) (E0 : Env) (w0 : World) (X : Nat → Bool) (E : Env) (w : World) (a : Act) : Prop where
  frame : FrameRep E w (foldT X L 0 t0) a
  inv : Inv G own E w (foldS X L 0 σ0)
  adv : AdvP own π E0 E w0 w
  free : ∀ i, i < n → X i = false → ∀ j, ((base + i) :: π) <:+ j → E.μ j = none
  more : Free E π (base + n)
  defers : a.defers = a0.defers

theorem par_sound {ops : Array Oper} {vs : List VOper} (hvs : ops.toList.mapM (cOper P ops) = some vs) (hord : orderOk vs (ops.toList.map onsOf) = true)
    {π : Id} {base : Nat} {t0 : List AV} {σ0 : Store} {rs : List Res} (hrl : rs.length = vs.length)
    (hst : ∀ k o r, vs[k]? = some o → rs[k]? = some r → stepCond P G π base o (0 + k) (foldT (fun m => m < 0 + k) ((vs.map (·.dst)).zip rs) 0 t0) (foldS (fun m => m < 0 + k) ((vs.map (·.dst)).zip rs) 0 σ0) r)
    (hap : allApart rs (freePairs vs (ops.toList.map onsOf))) {a0 : Act} {E0 : Env} {w0 : World} {Q : Exit → Act → World → Prop}
    (hQ : ∀ a E w, Mid G π own ((vs.map (·.dst)).zip rs) base ops.size t0 σ0 a0 E0 w0 (fun _ => true) E w a → Q .normal a w) :
    ∀ (fuel : Nat) (listed : Array Bool) (a : Act) (E : Env) (w : World), listed.size = ops.size → ops.size ≤ (List.range ops.size).countP (fun i => listed.getD i false) + fuel →
      (∀ k, k < ops.size → listed.getD k false = true → ∀ e ∈ (ops.toList.map onsOf).getD k [], listed.getD e false = true) →
      Mid G π own ((vs.map (·.dst)).zip rs) base ops.size t0 σ0 a0 E0 w0 (fun i => listed.getD i false) E w a → wpAny P .any ops Q fuel listed a w := by
  have hvl : vs.length = ops.size := by have := mapM_some_len hvs; simpa using this
  generalize hL : (vs.map (·.dst)).zip rs = L at *
  have hLl : L.length = ops.size := by rw [← hL]; simp [hrl, hvl]
  have hLget : ∀ (k : Nat) (d : Option Nat) (r : Res), L[k]? = some (d, r) ↔ ∃ o : VOper, vs[k]? = some o ∧ o.dst = d ∧ rs[k]? = some r := by
    intro k d r
    rw [← hL, List.getElem?_zip_eq_some]
    simp only [List.getElem?_map, Option.map_eq_some_iff]
    constructor
    · rintro ⟨⟨o, h1, h2⟩, h3⟩; exact ⟨o, h1, h2, h3⟩
    · rintro ⟨o, h1, h2, h3⟩; exact ⟨⟨o, h1, h2⟩, h3⟩
  generalize hons : ops.toList.map onsOf = ons at *
  have honl : ons.length = ops.size := by rw [← hons]; simp
  unfold orderOk at hord
  simp only [Bool.and_eq_true, List.all_eq_true] at hord
  obtain ⟨⟨_, hlt⟩, hclash⟩ := hord
  have hlt' : ∀ j, j < ops.size → ∀ e ∈ ons.getD j [], e < j := by
    intro j hj e he
    have := hlt j (List.mem_range.2 (by rw [hvl]; exact hj)) e he
    simpa using this
  have hcl : ∀ (i j : Nat) (a b : VOper), i < j → vs[i]? = some a → vs[j]? = some b → clash a b = true → ((masks ons []).getD j 0).testBit i = true := by
    intro i j a b hij ha hb hc
    have hj : j < vs.length := (List.getElem?_eq_some_iff.1 hb).1
    have := hclash (i, j) (mem_allPairs hij hj)
    simp only [ha, hb, hc, Bool.not_true, Bool.false_or] at this
    exact this
  have hfree : ∀ (i j : Nat) (a b : VOper), i < j → vs[i]? = some a → vs[j]? = some b → a.op.pure = false → b.op.pure = false → (a.op.isLoad && b.op.isLoad) = false → ((masks ons []).getD j 0).testBit i = false → ∀ (x y : Res), rs[i]? = some x → rs[j]? = some y → apart x y := by
    intro i j a b hij ha hb hpa hpb hll hm x y hx hy
    have hj : j < vs.length := (List.getElem?_eq_some_iff.1 hb).1
    refine hap (i, j) ?_ x y hx hy
    unfold freePairs
    rw [List.mem_filter]
    exact ⟨mem_allPairs hij hj, by simp only [ha, hb, hpa, hpb, hll, hm]; rfl⟩
  -- an operation that touches a block is not pure
  have touch : ∀ (k : Nat) (o : VOper) (r : Res), vs[k]? = some o → rs[k]? = some r → (r.rd ≠ [] ∨ r.up ≠ []) → o.op.pure = false := by
    intro k o r ho hr hne
    cases hp : o.op.pure with
    | false => rfl
    | true =>
      rcases hst k o r ho hr with ⟨_, rfl⟩ | ⟨_, hs⟩
      · simp at hne
      · obtain ⟨h1, h2⟩ := pure_spec hp hs
        simp [h1, h2] at hne
  have noLoad : ∀ (k : Nat) (o : VOper) (r : Res), vs[k]? = some o → rs[k]? = some r → r.up ≠ [] → o.op.isLoad = false := by
    intro k o r ho hr hne
    cases hp : o.op.isLoad with
    | false => rfl
    | true =>
      rcases hst k o r ho hr with ⟨_, rfl⟩ | ⟨_, hs⟩
      · simp at hne
      · exact absurd (load_spec hp hs) hne
  intro fuel
  induction fuel with
  | zero =>
    intro listed a E w hls hcnt hdc hm
    have hall : ∀ i, i < ops.size → listed.getD i false = true := by
      intro i hi
      have := countP_all (X := fun i => listed.getD i false) (List.range ops.size) (by simpa using hcnt) i (List.mem_range.2 hi)
      exact this
    refine ⟨?_, hQ a E w ?_⟩
    · apply List.eq_nil_iff_forall_not_mem.2
      intro j hj
      obtain ⟨h1, o, h2, _⟩ := mem_ready.1 hj
      have hjl : j < ops.size := (Array.getElem?_eq_some_iff.1 h2).1
      have := hall j hjl
      rw [Array.getD_eq_getD_getElem?] at h1 this
      cases hh : listed[j]? with
      | none => simp [hh] at this
      | some b => simp [hh] at h1 this; simp [h1] at this
    · have e1 : foldT (fun i => listed.getD i false) L 0 t0 = foldT (fun _ => true) L 0 t0 := foldT_ext L 0 t0 (fun k hk => by rw [Nat.zero_add]; exact hall k (by omega))
      have e2 : foldS (fun i => listed.getD i false) L 0 σ0 = foldS (fun _ => true) L 0 σ0 := foldS_ext L 0 σ0 (fun k hk => by rw [Nat.zero_add]; exact hall k (by omega))
      exact ⟨e1 ▸ hm.frame, e2 ▸ hm.inv, hm.adv, by simp, hm.more, hm.defers⟩
  | succ fuel ih =>
    intro listed a E w hls hcnt hdc hm
    have getd : ∀ i, i < ops.size → listed.getD i true = listed.getD i false := by
      intro i hi
      rw [Array.getD_eq_getD_getElem?, Array.getD_eq_getD_getElem?, Array.getElem?_eq_getElem (by omega)]
      rfl
    have onsAt : ∀ (j : Nat) (o : Oper), ops[j]? = some o → ons.getD j [] = onsOf o := by
      intro j o ho
      rw [← hons]
      have hj : j < ops.size := (Array.getElem?_eq_some_iff.1 ho).1
      have he : ops[j] = o := (Array.getElem?_eq_some_iff.1 ho).2
      simp [List.getD, hj, he]
    refine ⟨?_, ?_⟩
    · -- nothing is ready: all is done
      intro hnone
      have hall : ∀ i, i < ops.size → listed.getD i false = true := by
        intro i
        induction i using Nat.strongRecOn with
        | _ i ihi =>
          intro hi
          cases hh : listed.getD i false with
          | true => rfl
          | false =>
            exfalso
            have hin : i ∈ Region.ready .any ops listed := by
              refine mem_ready.2 ⟨(getd i hi).trans hh, ops[i], by simp [hi], ?_⟩
              intro e he hb
              have hmem : e.on ∈ ons.getD i [] := by
                rw [onsAt i ops[i] (by simp [hi])]
                unfold onsOf
                exact List.mem_map.2 ⟨e, List.mem_filter.2 ⟨by simpa using he, hb⟩, rfl⟩
              have := hlt' i hi e.on hmem
              exact ihi e.on this (by omega)
            rw [hnone] at hin
            simp at hin
      have e1 : foldT (fun i => listed.getD i false) L 0 t0 = foldT (fun _ => true) L 0 t0 := foldT_ext L 0 t0 (fun k hk => by rw [Nat.zero_add]; exact hall k (by omega))
      have e2 : foldS (fun i => listed.getD i false) L 0 σ0 = foldS (fun _ => true) L 0 σ0 := foldS_ext L 0 σ0 (fun k hk => by rw [Nat.zero_add]; exact hall k (by omega))
      exact hQ a E w ⟨e1 ▸ hm.frame, e2 ▸ hm.inv, hm.adv, by simp, hm.more, hm.defers⟩
    · intro j hj
      obtain ⟨h1, o, ho, hedge⟩ := mem_ready.1 hj
      have hjn : j < ops.size := (Array.getElem?_eq_some_iff.1 ho).1
      have hXj : listed.getD j false = false := (getd j hjn).symm.trans h1
      generalize hX : (fun i => listed.getD i false) = X at *
      have hXd : ∀ i, listed.getD i false = X i := fun i => by rw [← hX]
      simp only [hXd] at hdc hXj
      have hone : ∀ e ∈ ons.getD j [], X e = true := by
        intro e he
        rw [onsAt j o ho] at he
        unfold onsOf at he
        obtain ⟨ed, hed, rfl⟩ := List.mem_map.1 he
        obtain ⟨h3, h4⟩ := List.mem_filter.1 hed
        rw [← hXd]
        exact hedge ed (by simpa using h3) h4
      have pre : ∀ i, ((masks ons []).getD j 0).testBit i = true → X i = true := mask_closed hlt' hdc j hjn hone
      have post : ∀ k, k < ops.size → X k = true → ((masks ons []).getD k 0).testBit j = false := by
        intro k hk hxk
        cases hb : ((masks ons []).getD k 0).testBit j with
        | false => rfl
        | true => have := mask_closed hlt' hdc k hk (hdc k hk hxk) j hb; simp [hXj] at this
      -- the operation
      have hvo : ∃ vo, vs[j]? = some vo ∧ cOper P ops o = some vo := by
        have hjv : j < vs.length := by omega
        obtain ⟨o', h3, h4⟩ := mapM_some_get hvs j vs[j] (by simp [hjv])
        have : o' = o := by
          have h5 : ops.toList[j]? = some o := by simpa using ho
          rw [h5] at h3; simpa using h3.symm
        subst this
        exact ⟨vs[j], by simp [hjv], h4⟩
      obtain ⟨vo, hvoj, hvo⟩ := hvo
      obtain ⟨hop, hdst⟩ := cOper_op hvo
      have hrj : j < rs.length := by omega
      obtain ⟨r, hr⟩ : ∃ r, rs[j]? = some r := ⟨rs[j], by simp [hrj]⟩
      have hsc := hst j vo r hvoj hr
      rw [Nat.zero_add] at hsc
      -- a slot that it names
      have slot : ∀ s ∈ vo.names, (foldT X L 0 t0)[s]? = (foldT (fun m => m < j) L 0 t0)[s]? := by
        intro s hs
        refine foldT_congr L 0 t0 t0 rfl ?_
        intro k d r' hk hne hds
        rw [Nat.zero_add] at hne
        obtain ⟨ok, h3, h4, h5⟩ := (hLget k d r').1 hk
        subst hds
        have hkn : k < ops.size := by have := (List.getElem?_eq_some_iff.1 h3).1; omega
        rcases Nat.lt_trichotomy k j with hlt2 | rfl | hgt
        · have hxk : X k = false := by
            cases hh : X k with
            | false => rfl
            | true => simp [hh, hlt2] at hne
          have hc : clash ok vo = true := by unfold clash; simp [h4, hs]
          have := pre k (hcl k j ok vo hlt2 h3 hvoj hc)
          simp [hxk] at this
        · simp [hXj] at hne
        · have hxk : X k = true := by
            cases hh : X k with
            | true => rfl
            | false => simp [hh, Nat.not_lt.2 (Nat.le_of_lt hgt)] at hne
          have hc : clash vo ok = true := by unfold clash; simp [h4, hs]
          have := hcl j k vo ok hgt hvoj h3 hc
          rw [post k hkn hxk] at this
          simp at this
      have hmap : vo.op.map (VArg.ev G (foldT X L 0 t0)) = vo.op.map (VArg.ev G (foldT (fun m => m < j) L 0 t0)) := by
        refine VOp.map_congr _ fun x hx => ev_congr x fun s hs => slot s ?_
        unfold VOper.names
        exact List.mem_append_left _ (List.mem_filterMap.2 ⟨x, hx, hs⟩)
      have hwant : vwanted (foldT X L 0 t0) vo.guard = vwanted (foldT (fun m => m < j) L 0 t0) vo.guard := by
        cases hg : vo.guard with
        | none => rfl
        | some q =>
          obtain ⟨s, want⟩ := q
          have := slot s (by unfold VOper.names; simp [hg])
          simp only [vwanted, this]
      have hrd : ∀ id ∈ r.rd, foldS X L 0 σ0 id = foldS (fun m => m < j) L 0 σ0 id := by
        intro id hid
        refine foldS_congr L 0 σ0 σ0 rfl ?_
        intro k d r' hk hne hin
        rw [Nat.zero_add] at hne
        obtain ⟨ok, h3, h4, h5⟩ := (hLget k d r').1 hk
        have hkn : k < ops.size := by have := (List.getElem?_eq_some_iff.1 h3).1; omega
        have hpk : ok.op.pure = false := touch k ok r' h3 h5 (.inr (by intro e; simp [e] at hin))
        have hpj : vo.op.pure = false := touch j vo r hvoj hr (.inl (by intro e; simp [e] at hid))
        have hlk : ok.op.isLoad = false := noLoad k ok r' h3 h5 (by intro e; simp [e] at hin)
        obtain ⟨x, hx, rfl⟩ := List.mem_map.1 hin
        rcases Nat.lt_trichotomy k j with hlt2 | rfl | hgt
        · have hxk : X k = false := by
            cases hh : X k with
            | false => rfl
            | true => simp [hh, hlt2] at hne
          have hb : ((masks ons []).getD j 0).testBit k = false := by
            cases hb : ((masks ons []).getD j 0).testBit k with
            | false => rfl
            | true => have := pre k hb; simp [hxk] at this
          exact ((hfree k j ok vo hlt2 h3 hvoj hpk hpj (by simp [hlk]) hb r' r h5 hr).1 x hx).1 hid
        · simp [hXj] at hne
        · have hxk : X k = true := by
            cases hh : X k with
            | true => rfl
            | false => simp [hh, Nat.not_lt.2 (Nat.le_of_lt hgt)] at hne
          exact (hfree j k vo ok hgt hvoj h3 hpj hpk (by simp [hlk]) (post k hkn hxk) r r' hr h5).2 x hx hid
      -- behind it
      generalize hX' : (fun i => if i = j then true else X i) = X' at *
      have hXe : ∀ i, X' i = if i = j then true else X i := fun i => by rw [← hX']
      have later : ∀ (k : Nat) (d : Option Nat) (r' : Res), L[k]? = some (d, r') → j < k → X' k = true → ∃ ok : VOper, vs[k]? = some ok ∧ ok.dst = d ∧ rs[k]? = some r' ∧ k < ops.size ∧ X k = true := by
        intro k d r' hk hlt2 hxk
        obtain ⟨ok, h3, h4, h5⟩ := (hLget k d r').1 hk
        refine ⟨ok, h3, h4, h5, by have := (List.getElem?_eq_some_iff.1 h3).1; omega, ?_⟩
        rw [hXe] at hxk
        simpa [show k ≠ j from by omega] using hxk
      have hLj : L[j]? = some (vo.dst, r) := (hLget j _ _).2 ⟨vo, hvoj, rfl, hr⟩
      have tEq : putT (foldT X L 0 t0) vo.dst r.val = foldT X' L 0 t0 := by
        apply List.ext_getElem?
        intro s
        rw [putT_get]
        by_cases hd : vo.dst = some s
        · rw [if_pos hd]
          rw [foldT_last L 0 j t0 (by rw [hLj, hd]) (by rw [Nat.zero_add, hXe]; simp) ?_, foldT_len]
          intro k d r' hk hlt2 hxk hds
          rw [Nat.zero_add] at hxk
          obtain ⟨ok, h3, h4, h5, hkn, hxk'⟩ := later k d r' hk hlt2 hxk
          have hc : clash vo ok = true := by unfold clash; simp [hd, h4, hds]
          have := hcl j k vo ok hlt2 hvoj h3 hc
          rw [post k hkn hxk'] at this
          simp at this
        · rw [if_neg hd]
          refine foldT_congr L 0 t0 t0 rfl ?_
          intro k d r' hk hne
          rw [Nat.zero_add, hXe] at hne
          have hkj : k = j := by
            apply Classical.byContradiction; intro h; simp [h] at hne
          subst hkj
          rw [hLj] at hk
          simp only [Option.some.injEq, Prod.mk.injEq] at hk
          rw [← hk.1]; exact hd
      have sEq : (foldS X L 0 σ0).app r.up = foldS X' L 0 σ0 := by
        funext id
        by_cases hin : id ∈ r.up.map (·.1)
        · symm
          refine foldS_last L 0 j σ0 hLj (by rw [Nat.zero_add, hXe]; simp) hin ?_
          intro k d r' hk hlt2 hxk hin'
          rw [Nat.zero_add] at hxk
          obtain ⟨ok, h3, h4, h5, hkn, hxk'⟩ := later k d r' hk hlt2 hxk
          have hpk : ok.op.pure = false := touch k ok r' h3 h5 (.inr (by intro e; simp [e] at hin'))
          have hpj : vo.op.pure = false := touch j vo r hvoj hr (.inr (by intro e; simp [e] at hin))
          have hlj : vo.op.isLoad = false := noLoad j vo r hvoj hr (by intro e; simp [e] at hin)
          obtain ⟨x, hx, rfl⟩ := List.mem_map.1 hin
          exact ((hfree j k vo ok hlt2 hvoj h3 hpj hpk (by simp [hlj]) (post k hkn hxk') r r' hr h5).1 x hx).2 hin'
        · rw [Store.app_other hin]
          refine foldS_congr L 0 σ0 σ0 rfl ?_
          intro k d r' hk hne
          rw [Nat.zero_add, hXe] at hne
          have hkj : k = j := by
            apply Classical.byContradiction; intro h; simp [h] at hne
          subst hkj
          rw [hLj] at hk
          simp only [Option.some.injEq, Prod.mk.injEq] at hk
          rw [← hk.2]; exact hin
      -- going on
      have hXl : ∀ i, (listed.setIfInBounds j true).getD i false = X' i := by
        intro i
        rw [hXe]
        by_cases e : i = j
        · subst e
          rw [Array.getD_eq_getD_getElem?]
          simp [hls, hjn]
        · rw [if_neg e, getD_set_ne false (fun h => e h.symm), hXd]
      have go : ∀ (a' : Act) (E' : Env) (w' : World), FrameRep E' w' (foldT X' L 0 t0) a' → Inv G own E' w' (foldS X' L 0 σ0) → AdvP own π E E' w w' → (∀ i : Id, ¬ ((base + j) :: π) <:+ i → E'.μ i = E.μ i) → a'.defers = a.defers →
          wpAny P .any ops Q fuel (listed.setIfInBounds j true) a' w' := by
        intro a' E' w' hf' hi' had hids hde
        have hfn : (fun i => (listed.setIfInBounds j true).getD i false) = X' := funext hXl
        refine ih _ a' E' w' (by simpa using hls) ?_ ?_ ?_
        · rw [hfn]
          have := countP_lt (X := X) (Y := X') (i := j) hXj (by rw [hXe]; simp) (fun k hk => by rw [hXe]; split <;> simp [hk]) (List.range ops.size) (List.mem_range.2 hjn)
          omega
        · intro k hk hxk e he
          rw [hXl] at hxk ⊢
          rw [hXe] at hxk ⊢
          split
          · rfl
          · by_cases hkj : k = j
            · subst hkj; exact hone e he
            · rw [if_neg hkj] at hxk
              exact hdc k hk hxk e he
        · rw [hfn]
          refine ⟨hf', hi', hm.adv.trans had, ?_, ?_, hde.trans hm.defers⟩
          · intro i hi hxi j'
            rw [hXe] at hxi
            have hij : i ≠ j := by rintro rfl; simp at hxi
            rw [if_neg hij] at hxi
            intro hj'
            rw [hids _ (under_ne hj' (by omega))]
            exact hm.free i hi hxi j' hj'
          · intro j' hj' hq
            rw [hids _ (hq (base + j) (by omega))]
            exact hm.more j' hj' hq
      unfold wpOp
      rw [ho]
      simp only []
      rcases hsc with ⟨hw0, rfl⟩ | ⟨hw1, hsr⟩
      · rw [wanted_iff hvo hm.frame (hwant.trans hw0)]
        simp only [Bool.false_eq_true, if_false]
        refine go _ E w ?_ ?_ (AdvP.refl own π E w) (fun _ _ => rfl) (put_defers' _ _ _)
        · rw [← tEq, ← hdst]; exact undef_rep hm.frame _
        · rw [← sEq]; exact hm.inv
      · rw [wanted_iff hvo hm.frame (hwant.trans hw1)]
        simp only [if_true]
        left
        rw [← hmap] at hsr
        refine step_sound hm.inv (hm.free j hjn hXj) hm.frame hop (stepRel_congr hsr hrd) ?_
        intro v w' E' hp
        refine go _ E' w' ?_ ?_ hp.advP hp.ids (put_defers' _ _ _)
        · rw [← tEq, ← hdst]; exact hp.frame hm.frame _
        · rw [← sEq]; exact hp.inv

end

end Go.VL
