/- The V-layer, part 10: append, and every operation other than a call. -/
import Derived.Test.YtcomlgfjnjpebaaGreatDoorVL9
import Derived.Test.YtcomlgfjnjpebaaGreatDoorVL2S
import Derived.Lib.AppendZeros
namespace Go.VL

section
variable {P : Program} {G : Nat → Option (List AV)} {own : Nat → Prop} {E : Env} {w : World} {σ : Store} {p : Id}

/-- An append that finds room. -/
theorem room_ok (hi : Inv G own E w σ) (hμ : E.μ p = none) (hσ : σ p = none) {id : Id} {bk : Blk} (hid : σ id = some bk) (hfr : bk.fr = false) {g N : Nat} {cur : Array Value} {ty : TypeId} (hB : BlkAt E own w id bk g N cur ty)
    {ys : List AV} (hk : ∀ e ∈ ys, e.size = bk.k) {news : List Value} (hv : RepL E w (flat ys) news) (hfit : bk.els.length + ys.length ≤ N) {rd : List Id} :
    OpPost G own E w σ p { val := .osl p bk.k 0 (bk.els.length + ys.length) false, rd := rd, up := [(id, none), (p, some ⟨bk.els ++ ys, bk.k, false⟩)] }
      (.slice (some ⟨g, 0, none⟩) (bk.els.length + ys.length) N) (E.bind p g bk.k N)
      (w.setRow g (cur.toList.take (bk.els.length * bk.k) ++ news ++ cur.toList.drop (bk.els.length * bk.k + news.length)).toArray) := by
  obtain ⟨hvl, hvp⟩ := repL_iff.1 hv
  have hy := flat_length hk
  have he := flat_length hB.k
  have hle : bk.els.length * bk.k + news.length ≤ cur.size := by
    rw [hvl, hy, hB.size, ← Nat.add_mul]; exact Nat.mul_le_mul_right _ hfit
  generalize hnv : (cur.toList.take (bk.els.length * bk.k) ++ news ++ cur.toList.drop (bk.els.length * bk.k + news.length)).toArray = nv
  have hnew : (w.setRow g nv).heap[g]? = some (.cells nv ty (0, 0)) := setRow_heap w g cur nv ty _ hB.heap
  have hne0 : id ≠ p := by rintro rfl; simp [hid] at hσ
  have hs : Step E (E.bind p g bk.k N) w (w.setRow g nv) :=
    ⟨fun i x h => by rw [Env.bind_other]; exact h; rintro rfl; simp [hμ] at h, fun _ h => h, fun b hb => setRow_other w g b nv (fun e => hB.no hfr (e ▸ hb))⟩
  have hadv : Adv own E (E.bind p g bk.k N) w (w.setRow g nv) :=
    ⟨hs, rfl, rfl, rfl, by simp, fun k _ hk => setRow_other w g k nv (fun e => hk (e ▸ hB.own)), fun _ h => .inl h⟩
  have hsz : nv.size = cur.size := by
    rw [← hnv]
    simp only [List.size_toArray, List.length_append, List.length_take, List.length_drop, Array.length_toList]
    omega
  refine ⟨hadv, ⟨?_, ?_, ?_, ?_, ?_⟩, ?_, fun i hne => Env.bind_other _ _ _ _ _ (fun e => hne (by rw [e]; exact List.suffix_refl _))⟩
  · intro b hb; simpa using hi.okb b hb
  · intro i bk' h
    simp only [Store.app] at h
    by_cases e1 : i = p
    · subst e1
      rw [Store.put_same] at h
      simp only [Option.some.injEq] at h; subst h
      refine ⟨g, N, nv, ty, Env.bind_same _ _ _ _ _, hnew, by rw [hsz]; exact hB.size, by simpa using hfit, hB.most, hB.own, by simp, fun _ hb => hB.no hfr hb, ?_, ?_⟩
      · intro e he
        rcases List.mem_append.1 he with h | h
        · exact hB.k e h
        · exact hk e h
      · show RepAt _ _ g 0 (flat (bk.els ++ ys))
        rw [flat_append]
        have hcell : ∀ j, (w.setRow g nv).cell? ⟨g, j, none⟩ = nv[j]? := fun j => cell_of_row _ _ _ _ _ _ hnew
        have ht : (cur.toList.take (bk.els.length * bk.k)).length = bk.els.length * bk.k := by simp; omega
        refine repAt_append.2 ⟨fun j c hj => ?_, fun j c hj => ?_⟩
        · have hjl : j < bk.els.length * bk.k := by rw [← he]; exact (List.getElem?_eq_some_iff.1 hj).1
          obtain ⟨v, hv1, hv2⟩ := hB.row j c hj
          rw [Nat.zero_add, cell_of_row _ _ _ _ _ _ hB.heap] at hv1
          refine ⟨v, ?_, Rep.keep hs c v hv2⟩
          rw [Nat.zero_add, hcell, ← hnv]
          simp only [List.getElem?_toArray, List.append_assoc]
          rw [List.getElem?_append_left (by omega), List.getElem?_take_of_lt hjl]
          simpa using hv1
        · obtain ⟨v, hv1, hv2⟩ := hvp j c hj
          have hjl : j < news.length := (List.getElem?_eq_some_iff.1 hv1).1
          refine ⟨v, ?_, Rep.keep hs c v hv2⟩
          rw [Nat.zero_add, hcell, ← hnv, he]
          simp only [List.getElem?_toArray, List.append_assoc]
          rw [List.getElem?_append_right (by omega), ht, Nat.add_sub_cancel_left, List.getElem?_append_left hjl]
          exact hv1
    · rw [Store.put_other _ _ _ e1] at h
      by_cases e2 : i = id
      · subst e2; simp [Store.put] at h
      · rw [Store.put_other _ _ _ e2] at h
        obtain ⟨g', N', cur', ty', hB'⟩ := hi.blk i bk' h
        have hne : g' ≠ g := hi.inj i id _ _ (by simp [h]) (by simp [hid]) e2 hB'.μ hB.μ
        exact ⟨g', N', cur', ty', hB'.keep hs (setRow_other w g g' nv hne) hB'.no⟩
  · intro i j x y hx hy hne h1 h2
    simp only [Store.app] at hx hy
    have other : ∀ i, i ≠ p → ((σ.put id none).put p (some ⟨bk.els ++ ys, bk.k, false⟩)) i ≠ none → i ≠ id ∧ σ i ≠ none := by
      intro i e h
      rw [Store.put_other _ _ _ e] at h
      have e2 : i ≠ id := by rintro rfl; simp [Store.put] at h
      rw [Store.put_other _ _ _ e2] at h
      exact ⟨e2, h⟩
    by_cases e1 : i = p
    · have e1 := e1.symm
      subst e1
      have e2 : j ≠ p := fun e => hne e.symm
      obtain ⟨h3, h4⟩ := other j e2 hy
      rw [Env.bind_same] at h1
      rw [Env.bind_other _ _ _ _ _ e2] at h2
      have := hi.inj id j (g, bk.k, N) y (by simp [hid]) h4 (fun e => h3 e.symm) hB.μ h2
      simp only [Option.some.injEq] at h1
      rw [← h1]; exact this
    · obtain ⟨h3, h4⟩ := other i e1 hx
      rw [Env.bind_other _ _ _ _ _ e1] at h1
      by_cases e2 : j = p
      · subst e2
        rw [Env.bind_same] at h2
        have := hi.inj i id x (g, bk.k, N) h4 (by simp [hid]) h3 h1 hB.μ
        simp only [Option.some.injEq] at h2
        rw [← h2]; exact this
      · obtain ⟨h5, h6⟩ := other j e2 hy
        rw [Env.bind_other _ _ _ _ _ e2] at h2
        exact hi.inj i j x y h4 h6 hne h1 h2
  · intro g' cs hg'
    obtain ⟨h1, h2⟩ := hi.glob g' cs hg'
    exact ⟨h1, RepCells.keep hs.bare (hs.same g' h1) cs 0 h2⟩
  · intro k hk; simp at hk; exact hi.new k hk
  · simp only [Rep]
    exact ⟨g, N, N, Env.bind_same _ _ _ _ _, by simp, hfit, by omega, hB.most, by simp⟩

/-- A tree that leads to no memory stands for val. -/
def FlatAV0 (c : AV) (val : Value) : Prop := ∀ E w, Rep E w c val

theorem all_one {ys : List AV} (h : (ys.all fun e => e.cells.all AV.one) = true) : ∀ c ∈ flat ys, c.one = true := by
  intro c hc
  simp only [flat, List.mem_flatMap] at hc
  obtain ⟨e, he, hce⟩ := hc
  have := List.all_eq_true.1 h e he
  exact List.all_eq_true.1 this c hce

theorem run_append_room_any (t ty e bt : TypeId) (i : TypeInfo) (ht : P.underlying t = some (.slice e)) (hi : P.info? e = some i)
    (g sLen sCap : Nat) (cur : Array Value) (hg : w.heap[g]? = some (.cells cur bt (0, 0)))
    (a : Addr) (m c : Nat) (news : List Value) (hl : news.length = m * i.size) (hnews : ∀ j u, news[j]? = some u → w.cell? (a.add j) = some u) (h1 : ∀ u ∈ news, u.oneCell' = true)
    (hroom : sLen + m ≤ sCap) (hfit : sLen * i.size + news.length ≤ cur.size) :
    (Builtin.append_ #[t, t] ty #[.slice (some ⟨g, 0, none⟩) sLen sCap, .slice (some a) m c]).run P w =
      .ok (.slice (some ⟨g, 0, none⟩) (sLen + m) sCap) (w.setRow g (cur.toList.take (sLen * i.size) ++ news ++ cur.toList.drop (sLen * i.size + news.length)).toArray) := by
  have hf := run_firstCells_some (P := P) w i.size m a m c news hl hnews
  have hst := run_storeCells_at P g (sLen * i.size) bt news 0 cur w hg (by simpa using hfit) h1
  simp only [Nat.add_zero] at hst
  simp [Builtin.append_, run_underlying ht, sizeOf, typeInfo, hi, Builtin.lenOf, hroom, hf, Addr.add_lit, hst]

theorem zeroCells_rep {z : AV} {zv : Value} (hz : RepL E w z.cells zv.cells.toList) (n : Nat) (hp : 0 < z.size) : RepL E w (flat (List.replicate n z)) (Builtin.zeroCells zv.cells n).toList := by
  obtain ⟨hl, hp2⟩ := repL_iff.1 hz
  have hk : ∀ e ∈ List.replicate n z, e.size = z.size := fun e he => by rw [List.eq_of_mem_replicate he]
  have hfl := flat_length hk
  have hs : zv.cells.size = z.size := by simpa [AV.size] using hl
  refine repL_iff.2 ⟨by rw [hfl]; simp [Builtin.zeroCells, hs], fun j c hj => ?_⟩
  have hjl : j < n * z.size := by have := (List.getElem?_eq_some_iff.1 hj).1; rw [hfl] at this; simpa using this
  have hdm : j / z.size * z.size + j % z.size = j := by rw [Nat.mul_comm]; exact Nat.div_add_mod j z.size
  have hmod := Nat.mod_lt j hp
  have hdiv : j / z.size < n := Nat.div_lt_of_lt_mul (by rwa [Nat.mul_comm] at hjl)
  have hg := flat_get (i := j / z.size) (e := z) hk (by simp [hdiv]) hmod
  rw [hdm, hj] at hg
  obtain ⟨v, hv, hr⟩ := hp2 (j % z.size) c hg.symm
  refine ⟨v, ?_, hr⟩
  have hv' : zv.cells[j % z.size]? = some v := by simpa using hv
  simp only [Builtin.zeroCells, Array.toList_map, Array.toList_range, List.getElem?_map, hs, List.getElem?_range hjl, Option.map_some]
  rw [getElem!_def, hv']

theorem over_sound (hi : Inv G own E w σ) {id : Id} {off k len : Nat} {tt : Bool} {news : List AV} {v : AV} {rd : List Id} {r : Res} (h : vover σ id off k news v rd = some r) {a : Value} (hs : Rep E w (.osl id k off len tt) a)
    (hk : ∀ e ∈ news, e.size = k) {vs : List Value} (hv : RepL E w (flat news) vs) {val : Value} (hval : FlatAV0 v val) :
    ∃ g cap, a = .slice (some ⟨g, off * k, none⟩) len cap ∧ ∃ w', (storeCells ⟨g, off * k, none⟩ vs).run P w = .ok () w' ∧ OpPost G own E w σ p r val E w' := by
  unfold vover at h
  split at h
  · rename_i bk hid
    split at h
    · rename_i hh
      obtain ⟨hbk, hle, hfr, hy1⟩ := hh
      simp only [Option.some.injEq] at h; subst h
      obtain ⟨g, N, cur, ety, hB⟩ := hi.blk id bk hid
      simp only [Rep] at hs
      obtain ⟨g', N', cap, hmm, rfl, hlc, hoc, hNm, htt⟩ := hs
      rw [hB.μ] at hmm
      simp only [Option.some.injEq, Prod.mk.injEq] at hmm
      obtain ⟨rfl, _, rfl⟩ := hmm
      obtain ⟨hbd, had, hi2⟩ := storeEls_ok hi hid hfr hB (e := off) (news := news) (vs := vs) hle (fun e he => by rw [hbk]; exact hk e he) hv
      have e0 : off * bk.k = off * k := by rw [hbk]
      rw [e0] at hbd had hi2
      have hst := run_storeCells_at P g (off * k) ety vs 0 cur w hB.heap (by simpa using hbd) (one_vals hv (all_one hy1))
      simp only [Nat.add_zero] at hst
      exact ⟨g, cap, rfl, _, hst, had, hi2, hval E _, fun _ _ => rfl⟩
    · simp at h
  · simp at h

theorem clear_sound (hi : Inv G own E w σ) {t e ty : TypeId} {z : AV} (hu : P.underlying t = some (.slice e)) (hz : zeroAV P e = some z) (hpos : 0 < z.size) {x : AV} {a : Value} (hx : Rep E w x a) {r : Res} (h : vclear σ z.size z x = some r) :
    Sound P G own E w σ p (Builtin.clear_ #[t] ty #[a]) r := by
  obtain ⟨it, zv, hit, hzv, hzc, hzs, hzo⟩ := zeroAV_spec hz
  have hzr := Rep.cells (constAV_rep (E := E) (w := w) hzc) (one_or_agg hzo)
  unfold vclear at h
  split at h
  · simp only [Option.some.injEq] at h; subst h
    simp only [Rep] at hx; subst hx
    exact Sound.same (v := .tuple #[]) hi (by simp [Builtin.clear_, run_underlying hu]) (by simp only [Rep]; exact ⟨#[], rfl, by simp [RepL]⟩)
  · rename_i id k' off len tt
    split at h
    · rename_i h0
      subst h0
      simp only [Option.some.injEq] at h; subst h
      simp only [Rep] at hx
      obtain ⟨g', N', cap, hmm, rfl, _⟩ := hx
      exact Sound.same (v := .tuple #[]) hi (by simp [Builtin.clear_, run_underlying hu]) (by simp only [Rep]; exact ⟨#[], rfl, by simp [RepL]⟩)
    · rename_i h0
      split at h
      · rename_i hh
        obtain ⟨rfl, _⟩ := hh
        obtain ⟨g, cap, rfl, w', hst, hp⟩ := over_sound (P := P) (p := p) (val := .tuple #[]) hi h hx (fun e he => by rw [List.eq_of_mem_replicate he]) (zeroCells_rep hzr len hpos) (fun E w => by simp only [Rep]; exact ⟨#[], rfl, by simp [RepL]⟩)
        refine ⟨_, w', E, ?_, hp⟩
        obtain ⟨m, rfl⟩ : ∃ m, len = m + 1 := ⟨len - 1, by omega⟩
        simp [Builtin.clear_, run_underlying hu, zeroValue_run hit hzv, hst]
      · simp at h
  · simp at h

theorem copy_sound (hi : Inv G own E w σ) {t t2 e ty : TypeId} {i : TypeInfo} (hu : P.underlying t = some (.slice e)) (hie : P.info? e = some i) {d x : AV} {a b : Value} (hd : Rep E w d a) (hx : Rep E w x b) {r : Res} (h : vcopy σ i.size d x = some r) :
    Sound P G own E w σ p (Builtin.copy_ #[t, t2] ty #[a, b]) r := by
  unfold vcopy at h
  split at h
  · simp at h
  · rename_i ys rd hel
    obtain ⟨hks, xa, xcap, rfl, hxl, hrow⟩ := elems_rep hi hx hel
    have zero : ∀ (ba : Option Addr) (n cap : Nat), Nat.min ys.length n = 0 → (Builtin.copy_ #[t, t2] ty #[.slice ba n cap, .slice xa ys.length xcap]).run P w = .ok (.int .i64 0) w := by
      intro ba n cap h0
      cases ba <;> cases xa <;> simp [Builtin.copy_, run_underlying hu, sizeOf_run hie, Builtin.lenOf, h0, Builtin.firstCells, loadCells, loadCellsFrom, storeCells, goInt]
    split at h
    · simp only [Option.some.injEq] at h; subst h
      simp only [Rep] at hd; subst hd
      exact Sound.same hi (zero none 0 0 (by simp)) (by simp only [Rep])
    · rename_i id k' off len tt
      split at h
      · rename_i h0
        simp only [Option.some.injEq] at h; subst h
        simp only [Rep] at hd
        obtain ⟨g', N', cap, hmm, rfl, _⟩ := hd
        have h0' : Nat.min ys.length len = 0 := by
          have := congrArg List.length (List.isEmpty_iff.1 h0)
          simp only [List.length_take, List.length_nil] at this
          rw [Nat.min_comm] at this; exact this
        exact Sound.same hi (zero _ len cap h0') (by simp only [Rep])
      · rename_i h0
        split at h
        · rename_i hk
          subst hk
          have hne : ys ≠ [] := by rintro rfl; simp at h0
          obtain ⟨xb, xo, rfl, hxr⟩ := hrow.resolve_left hne
          have hkt : ∀ e ∈ ys.take len, e.size = i.size := fun e he => hks e (List.mem_of_mem_take he)
          have hxr2 : RepAt E w xb xo (flat (ys.take len)) := by
            rw [flat_take hks]
            exact (repAt_append.1 (by rw [List.take_append_drop]; exact hxr : RepAt E w xb xo ((flat ys).take (len * i.size) ++ (flat ys).drop (len * i.size)))).1
          obtain ⟨news, hnr, hnc⟩ := vals_of hxr2
          have hnl : news.length = (ys.take len).length * i.size := by rw [RepL.len hnr, flat_length hkt]
          obtain ⟨g, cap, rfl, w', hst, hp⟩ := over_sound (P := P) (p := p) (val := .int .i64 (ys.take len).length) hi h hd hkt hnr (fun E w => by simp only [Rep])
          refine ⟨_, w', E, ?_, hp⟩
          have hmin : Nat.min ys.length len = (ys.take len).length := by rw [List.length_take, Nat.min_comm]
          have hf := run_firstCells_some (P := P) w i.size (ys.take len).length ⟨xb, xo, none⟩ ys.length xcap news hnl hnc
          generalize (ys.take len).length = m at hmin hf hp ⊢
          simp [Builtin.copy_, run_underlying hu, sizeOf_run hie, Builtin.lenOf, hmin, hf, hst, goInt]
        · simp at h
    · simp at h

theorem append_sound (hi : Inv G own E w σ) (hμ : E.μ p = none) (hσ : σ p = none) {t e ty : TypeId} {i : TypeInfo} (hu : P.underlying t = some (.slice e)) (hie : P.info? e = some i)
    (hz : (zeroAV P e).isSome = true) {s x : AV} {a b : Value} (hs : Rep E w s a) (hx : Rep E w x b) {r : Res} (h : vappend σ p i.size i.bytes s x = some r) :
    Sound P G own E w σ p (Builtin.append_ #[t, t] ty #[a, b]) r := by
  obtain ⟨z, hz⟩ := Option.isSome_iff_exists.1 hz
  obtain ⟨it, zv, hit, hzv, hzc, hzs, hzo⟩ := zeroAV_spec hz
  rw [hie] at hit
  simp only [Option.some.injEq] at hit; subst hit
  have hzsz : zv.cells.size = i.size := by
    have := RepL.len (Rep.cells (constAV_rep (E := E) (w := w) hzc) (one_or_agg hzo))
    simp at this; unfold AV.size at hzs; omega
  unfold vappend at h
  split at h
  · simp at h
  · rename_i ys rd hel
    obtain ⟨hks, xa, xcap, rfl, hxl, hrow⟩ := elems_rep hi hx hel
    split at h
    · rename_i hemp
      have hys : ys = [] := by simpa using hemp
      subst hys
      have hrun : ∀ (base : Option Addr) (n cap : Nat), n ≤ cap → (Builtin.append_ #[t, t] ty #[.slice base n cap, .slice xa ([] : List AV).length xcap]).run P w = .ok (.slice base n cap) w := by
        intro base n cap hn
        cases base <;> cases xa <;> simp [Builtin.append_, run_underlying hu, sizeOf_run hie, Builtin.lenOf, hn, Builtin.firstCells, loadCells, loadCellsFrom, storeCells]
      split at h
      · simp only [Option.some.injEq] at h; subst h
        have hs' := hs
        simp only [Rep] at hs; subst hs
        exact Sound.same hi (hrun none 0 0 (Nat.le_refl _)) hs'
      · simp only [Option.some.injEq] at h; subst h
        have hs' := hs
        simp only [Rep] at hs; obtain ⟨q, rfl, _⟩ := hs
        exact Sound.same hi (hrun q _ _ (Nat.le_refl _)) hs'
      · simp only [Option.some.injEq] at h; subst h
        have hs' := hs
        simp only [Rep] at hs; obtain ⟨g, N, cap, _, rfl, hle, _⟩ := hs
        exact Sound.same hi (hrun _ _ _ hle) hs'
      · simp at h
    · rename_i hemp
      have hne : ys ≠ [] := by simpa using hemp
      have hpos : 0 < ys.length := List.length_pos_iff.2 hne
      obtain ⟨xb, xo, rfl, hxr⟩ := hrow.resolve_left hne
      obtain ⟨news, hnr, hnc⟩ := vals_of hxr
      have hfl := flat_length hks
      have hnl : news.length = ys.length * i.size := by rw [RepL.len hnr, hfl]
      -- an append to a row that has no room
      have grow : ∀ (ba : Addr) (q : Nat) (es : List AV) (cap : Nat), (∀ e ∈ es, e.size = i.size) → (es = [] ∨ ∃ b o, ba = ⟨b, o, none⟩ ∧ RepAt E w b o (flat es)) → q = es.length → cap < q + ys.length →
          (q + ys.length) * i.bytes ≤ 140737488355328 → q + ys.length ≤ maxLen → ∀ rd,
          ∃ v w' E', (Builtin.append_ #[t, t] ty #[.slice (some ba) q cap, .slice (some ⟨xb, xo, none⟩) ys.length xcap]).run P w = .ok v w' ∧
            OpPost G own E w σ p { val := .osl p i.size 0 (q + ys.length) false, rd := rd, up := [(p, some ⟨es ++ ys, i.size, false⟩)] } v E' w' := by
        intro ba q es cap hk hr hq hcap hb hm rd
        have hfe := flat_length hk
        obtain ⟨olds, hor, hoc⟩ : ∃ vs : List Value, RepL E w (flat es) vs ∧ ∀ j v, vs[j]? = some v → w.cell? (ba.add j) = some v := by
          rcases hr with rfl | ⟨b, o, rfl, hr⟩
          · exact ⟨[], by simp [flat, RepL], by simp⟩
          · exact vals_of hr
        have hol : olds.length = q * i.size := by rw [RepL.len hor, hfe, hq]
        have hrun := run_append_grow (P := P) w t ty e i zv hu hie hzv ba q cap olds hol hoc ⟨xb, xo, none⟩ ys.length xcap news hnl hnc hcap (by unfold maxLen at hm; omega) (growslice_fits hcap hb)
        have hge := grownCap_ge w (q + ys.length) cap e
        have hcm := grownCap_le_maxLen w (q + ys.length) cap e hm
        refine ⟨_, _, E.bind p w.heap.size i.size (grownCap w (q + ys.length) cap e), hrun, ?_⟩
        have := fresh_ok (p := p) (rd := rd) hi hμ hσ (k := i.size) (n := q + ys.length) (N := grownCap w (q + ys.length) cap e) (els := es ++ ys) (fun e he => (List.mem_append.1 he).elim (hk e) (hks e)) (by simp [hq])
          (vs := olds ++ news) (by rw [flat_append]; exact RepL.append hor hnr) (rest := Builtin.zeroCells zv.cells (grownCap w (q + ys.length) cap e - (q + ys.length))) (by rw [size_zeroCells, hzsz]) hge hcm e
        have hee : (olds ++ news).toArray = olds.toArray ++ news.toArray := by simp
        rw [hee] at this
        exact this
      split at h
      · -- onto nil
        split at h
        · rename_i hh
          obtain ⟨hb, hm, _⟩ := hh
          simp only [Option.some.injEq] at h; subst h
          simp only [Rep] at hs; subst hs
          have hrun := run_append_nil (P := P) w t ty e i zv hu hie hzv ⟨xb, xo, none⟩ ys.length xcap news hnl hnc hpos (by unfold maxLen at hm; omega) (by omega)
          have hge := grownCap_ge w ys.length 0 e
          have hcm := grownCap_le_maxLen w ys.length 0 e hm
          refine ⟨_, _, E.bind p w.heap.size i.size (grownCap w ys.length 0 e), hrun, ?_⟩
          exact fresh_ok (p := p) (rd := rd) hi hμ hσ (k := i.size) (n := ys.length) (N := grownCap w ys.length 0 e) (els := ys) hks rfl hnr (by rw [size_zeroCells, hzsz]) hge hcm e
        · simp at h
      · -- onto a row without room
        rename_i k' es
        split at h
        · rename_i hh
          obtain ⟨rfl, hb, hm, _⟩ := hh
          simp only [Option.some.injEq] at h; subst h
          simp only [Rep] at hs
          obtain ⟨q, rfl, _, hk, hr⟩ := hs
          cases q with
          | none =>
            have hes : es = [] := by rcases hr with h | ⟨b, o, h, _⟩; exact h; simp at h
            subst hes
            simp only [List.length_nil, Nat.zero_add, List.nil_append] at hb hm ⊢
            have hrun := run_append_nil (P := P) w t ty e i zv hu hie hzv ⟨xb, xo, none⟩ ys.length xcap news hnl hnc hpos (by unfold maxLen at hm; omega) (by omega)
            have hge := grownCap_ge w ys.length 0 e
            have hcm := grownCap_le_maxLen w ys.length 0 e hm
            refine ⟨_, _, E.bind p w.heap.size i.size (grownCap w ys.length 0 e), hrun, ?_⟩
            exact fresh_ok (p := p) (rd := rd) hi hμ hσ (k := i.size) (n := ys.length) (N := grownCap w ys.length 0 e) (els := ys) hks rfl hnr (by rw [size_zeroCells, hzsz]) hge hcm e
          | some ba =>
            exact grow ba es.length es es.length hk (hr.imp id fun ⟨b, o, e, _, r⟩ => ⟨b, o, by simpa using e, repRow_iff.1 r⟩) rfl (by omega) hb hm rd
        · simp at h
      · -- onto a block of the store
        rename_i id k' off len tt
        split at h
        · rename_i bk hid
          split at h
          · rename_i hh
            obtain ⟨rfl, hbk, rfl, hle, hb, hm, hy1⟩ := hh
            obtain ⟨g, N, cur, ety, hB⟩ := hi.blk id bk hid
            simp only [Rep] at hs
            obtain ⟨g', N', cap, hmm, rfl, hlc, hoc, hNm, htt⟩ := hs
            rw [hB.μ] at hmm
            simp only [Option.some.injEq, Prod.mk.injEq] at hmm
            obtain ⟨rfl, _, rfl⟩ := hmm
            have hkk : ∀ e ∈ bk.els, e.size = i.size := fun e he => by rw [← hbk]; exact hB.k e he
            simp only [Nat.zero_mul]
            split at h
            · split at h
              · rename_i ht _
                simp only [Option.some.injEq] at h; subst h
                rw [if_pos ht] at htt
                have hsub := repAt_sub (l := 0) (r := len) hB.k hB.row (Nat.zero_le _) hle
                simp only [Nat.zero_mul, Nat.add_zero, List.drop_zero] at hsub
                exact grow ⟨g, 0, none⟩ len (bk.els.take len) cap (fun e he => hkk e (List.mem_of_mem_take he)) (.inr ⟨g, 0, rfl, hsub⟩) (by simp; omega) (by omega) hb hm (id :: rd)
              · simp at h
            · split at h
              · rename_i ht hh2
                obtain ⟨hle2, hfr, hb1⟩ := hh2
                simp only [Option.some.injEq] at h; subst h
                simp only [ht, Bool.false_eq_true, if_false, Nat.zero_add] at htt
                subst hle2
                by_cases hroom : bk.els.length + ys.length ≤ cap
                · have hrun := run_append_room_any (P := P) (w := w) t ty e ety i hu hie g bk.els.length cap cur hB.heap ⟨xb, xo, none⟩ ys.length xcap news hnl hnc (one_vals hnr (all_one hy1)) hroom
                    (by rw [hnl, hB.size, hbk, ← Nat.add_mul]; exact Nat.mul_le_mul_right _ (by omega))
                  obtain rfl : cap = N := htt
                  refine ⟨_, _, E.bind p g i.size cap, hrun, ?_⟩
                  have := room_ok (p := p) (rd := id :: rd) hi hμ hσ hid hfr hB (ys := ys) (fun e he => by rw [hbk]; exact hks e he) hnr hroom
                  rw [hbk] at this
                  exact this
                · obtain ⟨v, w', E', hrun, hpost⟩ := grow ⟨g, 0, none⟩ bk.els.length bk.els cap hkk (.inr ⟨g, 0, rfl, hB.row⟩) rfl (by omega) hb hm (id :: rd)
                  refine ⟨v, w', E', hrun, hpost.adv, ?_, hpost.rep, hpost.ids⟩
                  have hne0 : id ≠ p := by rintro rfl; simp [hid] at hσ
                  have := dead_ok hpost.inv id
                  have he : (σ.app [(p, some ⟨bk.els ++ ys, i.size, false⟩)]).put id none = σ.app [(id, none), (p, some ⟨bk.els ++ ys, i.size, false⟩)] := by
                    funext j
                    simp only [Store.app, Store.put]
                    by_cases e1 : j = id
                    · subst e1; simp [hne0]
                    · simp [e1]
                  rw [he] at this
                  exact this
              · split at h
                · -- over elements that lie behind
                  rename_i ht _ hh2
                  obtain ⟨hle2, hfr⟩ := hh2
                  simp only [Option.some.injEq] at h; subst h
                  simp only [ht, Bool.false_eq_true, if_false, Nat.zero_add] at htt
                  obtain rfl : cap = N := htt
                  have hroom : len + ys.length ≤ cap := Nat.le_trans hle2 hB.len
                  obtain ⟨hbd, had, hi2⟩ := storeEls_ok hi hid hfr hB (e := len) (news := ys) (vs := news) hle2 (fun e he => by rw [hbk]; exact hks e he) hnr
                  have e0 : len * bk.k = len * i.size := by rw [hbk]
                  rw [e0] at hbd had hi2
                  have hrun := run_append_room_any (P := P) (w := w) t ty e ety i hu hie g len cap cur hB.heap ⟨xb, xo, none⟩ ys.length xcap news hnl hnc (one_vals hnr (all_one hy1)) hroom hbd
                  refine ⟨_, _, E, hrun, had, hi2, ?_, fun _ _ => rfl⟩
                  simp only [Rep]
                  exact ⟨g, cap, cap, by rw [hB.μ, hbk], by simp, hroom, by omega, hNm, by simp⟩
                · simp at h
          · simp at h
        · simp at h
      · simp at h

theorem appz_sound (hi : Inv G own E w σ) (hμ : E.μ p = none) (hσ : σ p = none) {t tn e ty : TypeId} {i : TypeInfo} {kn : IntKind} (hu : P.underlying t = some (.slice e)) (hie : P.info? e = some i) (htn : P.underlying tn = some (.int kn)) {z : AV}
    (hz : zeroAV P e = some z) (hpos : 0 < i.size) {s x : AV} {a b : Value} (hs : Rep E w s a) (hx : Rep E w x b) {r : Res} (h : vappz p i.size i.bytes z s x = some r) :
    Sound P G own E w σ p (Builtin.append_ #[t, tn] ty #[a, b]) r := by
  obtain ⟨it, zv, hit, hzv, hzc, hzs, hzo⟩ := zeroAV_spec hz
  rw [hie] at hit
  simp only [Option.some.injEq] at hit; subst hit
  have hzr := Rep.cells (constAV_rep (E := E) (w := w) hzc) (one_or_agg hzo)
  have hzsz : zv.cells.size = i.size := by have := RepL.len hzr; simp at this; unfold AV.size at hzs; omega
  unfold vappz at h
  split at h
  · rename_i kk n
    split at h
    · rename_i hh
      obtain ⟨h0, hb, hm, hzk, _⟩ := hh
      simp only [Option.some.injEq] at h; subst h
      simp only [Rep] at hs hx; subst hs; subst hx
      obtain ⟨m, rfl⟩ : ∃ m : Nat, n = m := ⟨n.toNat, by omega⟩
      have hb' : m * i.bytes ≤ 140737488355328 := by rw [← Int.natCast_mul] at hb; omega
      have hm' : m ≤ maxLen := by omega
      have hge := grownCap_ge w m 0 e
      have hcm := grownCap_le_maxLen w m 0 e hm'
      have hrun := Lib.run_append_nil_zeros (P := P) w t tn ty e i zv kk kn hu htn hie hzv m (by omega) hpos (by unfold maxLen at hm'; omega) (by omega)
      refine ⟨_, _, E.bind p w.heap.size i.size (grownCap w m 0 e), hrun, ?_⟩
      have := fresh_ok (p := p) (rd := []) hi hμ hσ (k := i.size) (n := m) (N := grownCap w m 0 e) (els := List.replicate m z) (fun e he => by rw [List.eq_of_mem_replicate he]; exact hzk) (by simp)
        (vs := (Builtin.zeroCells zv.cells m).toList) (zeroCells_rep hzr m (by omega)) (rest := Builtin.zeroCells zv.cells (grownCap w m 0 e - m)) (by rw [size_zeroCells, hzsz]) hge hcm e
      simpa using this
    · simp at h
  · simp at h

end

end Go.VL
