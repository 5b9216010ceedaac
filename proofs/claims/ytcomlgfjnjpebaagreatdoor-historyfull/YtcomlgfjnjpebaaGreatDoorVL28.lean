/- The V-layer, part 28: blocks frozen at any place: slots, answers and the elements of other blocks then read as trees that nobody writes. -/
import Derived.Test.YtcomlgfjnjpebaaGreatDoorVL27
namespace Go.VL

section
variable {P : Program} {G : Nat → Option (List AV)} {own : Nat → Prop} {E : Env} {w : World} {σ : Store}

theorem View.fn {σ : Store} {f : Fn} {a c a' c' : List AV} (ha : ViewL σ a a') (hc : ViewL σ c c') : View σ (.fn f a c) (.fn f a' c') := fun G own E w v hi hr => by
  simp only [Rep] at hr ⊢
  obtain ⟨xs, ys, e, h1, h2⟩ := hr
  exact ⟨xs, ys, e, ha.repL hi h1, hc.repL hi h2⟩

theorem View.ref {σ : Store} {id : Id} {bk : Blk} {e o : Nat} {el : AV} {cs : List AV} (hσ : σ id = some bk) (he : bk.els[e]? = some el) (h : ViewL σ el.cells cs) : View σ (.ref id e o) (.ep cs o) := fun G own E w v hi hr => by
  obtain ⟨g, N, cur, ty, hB⟩ := hi.blk id bk hσ
  simp only [Rep] at hr ⊢
  obtain ⟨g', k', N', hm, rfl⟩ := hr
  rw [hB.μ] at hm
  simp only [Option.some.injEq, Prod.mk.injEq] at hm
  obtain ⟨rfl, rfl, rfl⟩ := hm
  refine ⟨g, e * bk.k, rfl, .inr ⟨id, bk, bk.k, N, hσ, hB.μ⟩, ?_⟩
  refine repCells_iff.2 (h.repAt hi ?_)
  have hlt := (List.getElem?_eq_some_iff.1 he).1
  have := repAt_sub (l := e) (r := e + 1) hB.k hB.row (by omega) (by omega)
  rw [Nat.zero_add] at this
  have e2 : (bk.els.take (e + 1)).drop e = [el] := by
    rw [List.drop_take, show e + 1 - e = 1 from by omega, List.drop_eq_getElem_cons hlt]
    obtain ⟨_, he'⟩ := List.getElem?_eq_some_iff.1 he
    simp [he']
  rw [e2] at this
  simpa [flat] using this

/-- Read before the blocks of F are frozen as c, behind it as d. -/
def ViewM (F : List (Id × Blk)) (c d : AV) : Prop := ∀ G own E w v, Inv G own E w (Store.of F) → Rep E w c v → Rep ⟨E.μ, (E.froze (Store.of F)).ok⟩ w d v
def ViewML (F : List (Id × Blk)) : List AV → List AV → Prop
  | [], [] => True
  | c :: cs, d :: ds => ViewM F c d ∧ ViewML F cs ds
  | _, _ => False

theorem ViewM.same (F : List (Id × Blk)) (c : AV) : ViewM F c c := fun _ _ E w v _ hr =>
  Rep.keep (⟨fun _ _ h => h, fun _ h => .inl h, fun _ _ => rfl⟩ : Step E ⟨E.μ, (E.froze (Store.of F)).ok⟩ w w) _ v hr
theorem ViewM.top (F : List (Id × Blk)) (c : AV) : ViewM F c .top := fun _ _ _ _ _ _ _ => by simp [Rep]
theorem ViewM.view {F : List (Id × Blk)} {c d : AV} (h : View (Store.of F) c d) : ViewM F c d := fun _ _ E w v hi hr =>
  Rep.keep (⟨fun _ _ h => by simp [Env.froze] at h, fun _ h => h, fun _ _ => rfl⟩ : Step (E.froze (Store.of F)) ⟨E.μ, (E.froze (Store.of F)).ok⟩ w w) _ v (h _ _ _ _ _ hi hr)
theorem ViewML.same (F : List (Id × Blk)) : ∀ cs : List AV, ViewML F cs cs
  | [] => trivial
  | c :: cs => ⟨ViewM.same F c, ViewML.same F cs⟩
theorem ViewML.repL {F : List (Id × Blk)} (hi : Inv G own E w (Store.of F)) : ∀ {cs ds : List AV} {vs : List Value}, ViewML F cs ds → RepL E w cs vs → RepL ⟨E.μ, (E.froze (Store.of F)).ok⟩ w ds vs
  | [], [], _, _, h => by simpa [RepL] using h
  | c :: cs, d :: ds, vs, hf, h => by
    simp only [ViewML] at hf
    simp only [RepL] at h ⊢
    obtain ⟨v, rest, e, h1, h2⟩ := h
    exact ⟨v, rest, e, hf.1 _ _ _ _ _ hi h1, ViewML.repL hi hf.2 h2⟩
  | [], _ :: _, _, h, _ => by simp [ViewML] at h
  | _ :: _, [], _, h, _ => by simp [ViewML] at h
theorem ViewML.get {F : List (Id × Blk)} : ∀ {cs ds : List AV}, ViewML F cs ds → ∀ (j : Nat) (d : AV), ds[j]? = some d → ∃ c, cs[j]? = some c ∧ ViewM F c d
  | [], [], _, j, d, h => by simp at h
  | c :: cs, d :: ds, hf, 0, d', h => by simp at h; subst h; exact ⟨c, rfl, hf.1⟩
  | c :: cs, d :: ds, hf, j + 1, d', h => by simpa using ViewML.get hf.2 j d' (by simpa using h)
  | [], _ :: _, h, _, _, _ => by simp [ViewML] at h
  | _ :: _, [], h, _, _, _ => by simp [ViewML] at h
theorem ViewML.len {F : List (Id × Blk)} : ∀ {cs ds : List AV}, ViewML F cs ds → cs.length = ds.length
  | [], [], _ => rfl
  | _ :: cs, _ :: ds, h => by simp [ViewML.len h.2]
  | [], _ :: _, h => by simp [ViewML] at h
  | _ :: _, [], h => by simp [ViewML] at h
theorem ViewM.agg {F : List (Id × Blk)} {cs ds : List AV} (h : ViewML F cs ds) : ViewM F (.agg cs) (.agg ds) := fun _ _ E w v hi hr => by
  simp only [Rep] at hr ⊢; obtain ⟨xs, e, hr⟩ := hr; exact ⟨xs, e, h.repL hi hr⟩
theorem ViewM.tup {F : List (Id × Blk)} {cs ds : List AV} (h : ViewML F cs ds) : ViewM F (.tup cs) (.tup ds) := fun _ _ E w v hi hr => by
  simp only [Rep] at hr ⊢; obtain ⟨xs, e, hr⟩ := hr; exact ⟨xs, e, h.repL hi hr⟩

/-- What is left of a block when those of F are frozen. -/
structure BlkF (F : List (Id × Blk)) (i : Id) (bk bk' : Blk) : Prop where
  k : bk'.k = bk.k
  fr : bk'.fr = bk.fr ∨ (bk'.fr = true ∧ (i, bk) ∈ F)
  no : bk'.fr = false → ∀ x ∈ F, x.1 ≠ i
  len : bk'.els.length = bk.els.length
  sz : ∀ e ∈ bk'.els, e.size = bk.k
  els : ViewML F (flat bk.els) (flat bk'.els)

theorem freeze_core {p : Id} {σ σ' : Store} (F : List (Id × Blk)) (hF : ∀ x ∈ F, σ x.1 = some x.2) (hs : ∀ i, σ' i = none ∨ ∃ bk bk', σ i = some bk ∧ σ' i = some bk' ∧ BlkF F i bk bk') (hi : Inv G own E w σ) :
    AdvP own p E ⟨E.μ, (E.froze (Store.of F)).ok⟩ w w ∧ Inv G own ⟨E.μ, (E.froze (Store.of F)).ok⟩ w σ' := by
  have hiF : Inv G own E w (Store.of F) := hi.sub (Store.of_sub hF)
  have hadv : Adv own E ⟨E.μ, (E.froze (Store.of F)).ok⟩ w w := by
    refine ⟨⟨fun _ _ h => h, fun b hb => .inl hb, fun b hb => rfl⟩, rfl, rfl, rfl, Nat.le_refl _, fun k hk _ => rfl, fun b hb => ?_⟩
    rcases hb with h1 | ⟨id, bk, k, N, hs, hm⟩
    · exact .inl h1
    · obtain ⟨g, N', cur, ty, hB⟩ := hi.blk id bk (hF _ (lookup_mem hs))
      rw [hB.μ] at hm
      simp only [Option.some.injEq, Prod.mk.injEq] at hm
      rw [← hm.1]; exact .inr hB.own
  refine ⟨⟨hadv, fun _ _ => rfl⟩, (hi.froze hF).okb, fun id bk' hb' => ?_, fun i j x y hi' hj' hne hx hy => ?_, fun g cs hg => ?_, hi.new⟩
  · rcases hs id with h | ⟨bk, bk2, h1, h2, hR⟩
    · rw [h] at hb'; simp at hb'
    · rw [h2] at hb'
      simp only [Option.some.injEq] at hb'; subst hb'
      obtain ⟨g, N, cur, ty, hB⟩ := hi.blk id bk h1
      refine ⟨g, N, cur, ty, by rw [hR.k]; exact hB.μ, hB.heap, by rw [hR.k]; exact hB.size, by rw [hR.len]; exact hB.len, hB.most, hB.own, fun hf => ?_, fun hf hok => ?_, by rw [hR.k]; exact hR.sz, ?_⟩
      · rcases hR.fr with h | ⟨_, h⟩
        · exact .inl (hB.ok (h ▸ hf))
        · exact .inr ⟨id, bk, bk.k, N, of_of_mem hF h, hB.μ⟩
      · have hbf : bk.fr = false := by
          rcases hR.fr with h | ⟨h, _⟩
          · rw [← h]; exact hf
          · rw [hf] at h; simp at h
        rcases hok with h | ⟨id2, bk2, k2, N2, hs2, hm2⟩
        · exact hB.no hbf h
        · have hm := lookup_mem hs2
          exact hi.inj id id2 _ _ (by simp [h1]) (by simp [hF _ hm]) (fun e => hR.no hf _ hm e.symm) hB.μ hm2 rfl
      · intro j d hd
        obtain ⟨c, hc, hv⟩ := hR.els.get j d hd
        obtain ⟨v, hv1, hv2⟩ := hB.row j c hc
        exact ⟨v, hv1, hv _ _ _ _ _ hiF hv2⟩
  · have keep : ∀ i, σ' i ≠ none → σ i ≠ none := by
      intro i hn he
      rcases hs i with h | ⟨bk, bk2, h1, _⟩
      · exact hn h
      · rw [he] at h1; simp at h1
    exact hi.inj i j x y (keep i hi') (keep j hj') hne hx hy
  · obtain ⟨h1, h2⟩ := hi.glob g cs hg
    exact ⟨.inl h1, RepCells.keep hadv.step.bare rfl cs 0 h2⟩

theorem Wk.frz {π : Id} {t t' : List AV} {σ σ' : Store} {n n' : Nat} (F : List (Id × Blk)) (hF : ∀ x ∈ F, σ x.1 = some x.2) (ht : ViewML F t t')
    (hs : ∀ i, σ' i = none ∨ ∃ bk bk', σ i = some bk ∧ σ' i = some bk' ∧ BlkF F i bk bk') (hn : n ≤ n') : Wk G π ⟨t, σ, n⟩ ⟨t', σ', n'⟩ := fun own E w a hm => by
  obtain ⟨h1, h2⟩ := freeze_core (p := π) F hF hs hm.inv
  exact ⟨_, h1, ht.repL (hm.inv.sub (Store.of_sub hF)) hm.frame, h2, hm.free.mono hn, hm.defers⟩

theorem Fin.frz {p : Id} {S : List (Id × Blk)} {σ' : Store} {r0 : AV} {r : Res} (F : List (Id × Blk)) (hF : ∀ x ∈ F, σ' x.1 = some x.2) (hv : ViewM F r0 r.val)
    (hs : ∀ i, (Store.of S).app r.up i = none ∨ ∃ bk bk', σ' i = some bk ∧ (Store.of S).app r.up i = some bk' ∧ BlkF F i bk bk') : Fin G p S σ' r0 r :=
  fun own E w v hi hr _ => by
    obtain ⟨h1, h2⟩ := freeze_core (p := p) F hF hs hi
    exact ⟨_, h1, h2, hv _ _ _ _ _ (hi.sub (Store.of_sub hF)) hr⟩

end

end Go.VL
