/- The V-layer, part 24: contracts on trees that nobody writes, used with blocks of the caller: the blocks are frozen, or the answer leads to no memory. -/
import Derived.Test.YtcomlgfjnjpebaaGreatDoorVL22
namespace Go.VL

def Blk.fz (b : Blk) : Blk := { b with fr := true }
def frz (S : List (Id × Blk)) : List (Id × Option Blk) := S.map fun x => (x.1, some x.2.fz)

open Classical in
theorem app_frz {σ : Store} (i : Id) : ∀ (S : List (Id × Blk)) (σ0 : Store), (∀ x ∈ S, σ x.1 = some x.2) → σ0.app (frz S) i = if ∃ x ∈ S, x.1 = i then (σ i).map Blk.fz else σ0 i
  | [], σ0, _ => by simp [frz, Store.app]
  | x :: S, σ0, h => by
    show Store.app (σ0.put x.1 (some x.2.fz)) (frz S) i = _
    rw [app_frz i S _ fun y hy => h y (List.mem_cons_of_mem _ hy)]
    by_cases h1 : ∃ y ∈ S, y.1 = i
    · rw [if_pos h1, if_pos]
      obtain ⟨y, hy, e⟩ := h1
      exact ⟨y, List.mem_cons_of_mem _ hy, e⟩
    · rw [if_neg h1]
      by_cases h2 : i = x.1
      · subst h2
        rw [if_pos ⟨x, by simp, rfl⟩, h x (by simp), Store.put_same]; rfl
      · rw [if_neg, Store.put_other _ _ _ h2]
        rintro ⟨y, hy, e⟩
        rcases List.mem_cons.1 hy with rfl | hy
        · exact h2 e.symm
        · exact h1 ⟨y, hy, e⟩

theorem of_of_mem {S : List (Id × Blk)} {σ : Store} (hS : ∀ x ∈ S, σ x.1 = some x.2) {x : Id × Blk} (hx : x ∈ S) : Store.of S x.1 = some x.2 := by
  cases hl : S.lookup x.1 with
  | none =>
    rw [List.lookup_eq_none_iff] at hl
    have := hl x hx
    simp at this
  | some b =>
    have := hS _ (lookup_mem hl)
    rw [hS x hx] at this
    show S.lookup x.1 = _
    rw [hl]; exact this.symm

section
variable {P : Program} {G : Nat → Option (List AV)}

theorem Inv.froze {own : Nat → Prop} {E : Env} {w : World} {σ : Store} {S : List (Id × Blk)} (hi : Inv G own E w σ) (hS : ∀ x ∈ S, σ x.1 = some x.2) :
    Inv G (fun k => w.heap.size ≤ k) (E.froze (Store.of S)) w (fun _ => none) where
  okb := by
    rintro b (hb | ⟨id, bk, k, N, hs, hm⟩)
    · exact hi.okb b hb
    · obtain ⟨g, N', cur, ty, hB⟩ := hi.blk id bk (hS _ (lookup_mem hs))
      rw [hB.μ] at hm
      simp only [Option.some.injEq, Prod.mk.injEq] at hm
      rw [← hm.1]; exact cells_lt hB.heap
  blk := fun id bk h => by simp at h
  inj := fun i j x y h => absurd rfl h
  glob := fun g cs hg => by
    obtain ⟨h1, h2⟩ := hi.glob g cs hg
    exact ⟨.inl h1, RepCells.keep (⟨fun _ _ h => h, fun _ h => .inl h, fun _ _ => rfl⟩ : Step E.bare (E.froze (Store.of S)).bare w w) rfl cs 0 h2⟩
  new := fun k hk => hk

/-- A call whose trees the caller's blocks stand behind: these are frozen. -/
theorem CallRel.of_view {f : FuncId} {args args' : List AV} {r : AV} {p : Id} {S : List (Id × Blk)} (h : VP P G f args' r) (hv : ViewL (Store.of S) args args') :
    CallRel P G f args p S { val := r, rd := S.map (·.1), up := frz S } := by
  refine ⟨h.1, fun own E w σ vs hS hi hr hμ => ?_⟩
  have hr' := hv.repL (hi.sub (Store.of_sub hS)) hr
  refine (h.2 w vs _ (hi.froze hS) hr').mono fun e w' he => ?_
  obtain ⟨v, ok', rfl, had, hok, hv'⟩ := he
  have hadv : Adv own E ⟨E.μ, ok'⟩ w w' := by
    refine ⟨⟨fun _ _ h => h, fun b hb => had.step.ok b (.inl hb), fun b hb => had.step.same b (.inl hb)⟩, had.os, had.tape, had.output, had.size, fun k hk _ => had.block k hk (by omega), fun b hb => ?_⟩
    rcases had.okn b hb with (h1 | ⟨id, bk, k, N, hs, hm⟩) | h1
    · exact .inl h1
    · obtain ⟨g, N', cur, ty, hB⟩ := hi.blk id bk (hS _ (lookup_mem hs))
      rw [hB.μ] at hm
      simp only [Option.some.injEq, Prod.mk.injEq] at hm
      rw [← hm.1]; exact .inr hB.own
    · exact .inr (hi.new b h1)
  refine ⟨v, ⟨E.μ, ok'⟩, rfl, hadv, ?_, Rep.keep (⟨fun _ _ h => by simp at h, fun _ h => h, fun _ _ => rfl⟩ : Step ⟨fun _ => none, ok'⟩ ⟨E.μ, ok'⟩ w' w') r v hv', fun _ _ => rfl⟩
  have happ := fun i => app_frz (σ := σ) i S σ hS
  refine ⟨hok, fun id bk hs => ?_, fun i j x y hi' hj' hne hx hy => ?_, fun g cs hg => ?_, fun k hk => hi.new k (Nat.le_trans had.size hk)⟩
  · have hs' : σ.app (frz S) id = some bk := hs
    rw [happ id] at hs'
    split at hs'
    · rename_i hin
      obtain ⟨x, hx, rfl⟩ := hin
      rw [hS x hx] at hs'
      simp only [Option.map_some, Option.some.injEq] at hs'
      subst hs'
      obtain ⟨g, N, cur, ty, hB⟩ := hi.blk _ _ (hS x hx)
      have hb := had.block g (cells_lt hB.heap) (by have := cells_lt hB.heap; omega)
      exact ⟨g, N, cur, ty, hB.μ, hb.trans hB.heap, hB.size, hB.len, hB.most, hB.own, fun _ => had.step.ok g (.inr ⟨x.1, x.2, x.2.k, N, of_of_mem hS hx, hB.μ⟩), fun hf => by simp [Blk.fz] at hf, hB.k, RepAt.keep hadv.step hb hB.row⟩
    · rename_i hnin
      obtain ⟨g, N, cur, ty, hB⟩ := hi.blk _ _ hs'
      have hg := cells_lt hB.heap
      refine ⟨g, N, cur, ty, hB.keep hadv.step (had.block g hg (by omega)) fun hf hb => ?_⟩
      rcases had.okn g hb with (h1 | ⟨id2, bk2, k2, N2, hs2, hm2⟩) | h1
      · exact hB.no hf h1
      · have hm := lookup_mem hs2
        refine hi.inj id id2 _ _ (by simp [hs']) (by simp [hS _ hm]) ?_ hB.μ hm2 rfl
        rintro rfl
        exact hnin ⟨_, hm, rfl⟩
      · omega
  · have keep : ∀ i, σ.app (frz S) i ≠ none → σ i ≠ none := by
      intro i hn he
      apply hn
      rw [happ i, he]
      split <;> rfl
    exact hi.inj i j x y (keep i hi') (keep j hj') hne hx hy
  · obtain ⟨h1, h2⟩ := hi.glob g cs hg
    exact ⟨hadv.step.ok g h1, RepCells.keep hadv.step.bare (hadv.step.same g h1) cs 0 h2⟩

/-- A call that answers what leads to no memory. -/
theorem CallRel.of_flat {f : FuncId} {args args' : List AV} {r : AV} {p : Id} {S : List (Id × Blk)} (h : VP P G f args' r) (hv : ViewL (Store.of S) args args') (hf : FlatAV r) :
    CallRel P G f args p S { val := r, rd := S.map (·.1) } := by
  refine ⟨h.1, fun own E w σ vs hS hi hr hμ => ?_⟩
  have hr' := hv.repL (hi.sub (Store.of_sub hS)) hr
  refine (h.2 w vs _ (hi.froze hS) hr').mono fun e w' he => ?_
  obtain ⟨v, ok', rfl, had, hok, hv'⟩ := he
  have hadv : Adv own E E w w' := ⟨⟨fun _ _ h => h, fun b hb => hb, fun b hb => had.step.same b (.inl hb)⟩, had.os, had.tape, had.output, had.size, fun k hk _ => had.block k hk (by omega), fun b hb => .inl hb⟩
  refine ⟨v, E, rfl, hadv, ?_, hf _ _ _ _ _ hv', fun _ _ => rfl⟩
  refine hi.keep hadv rfl (fun b hb => Nat.lt_of_lt_of_le (hi.okb b hb) had.size) fun id bk g N hs hm => ?_
  obtain ⟨g', N', cur, ty, hB2⟩ := hi.blk id bk hs
  rw [hB2.μ] at hm
  simp only [Option.some.injEq, Prod.mk.injEq] at hm
  obtain ⟨rfl, _, rfl⟩ := hm
  have hg := cells_lt hB2.heap
  exact ⟨had.block _ hg (by omega), hB2.no⟩

/-- Slots whose blocks are frozen: they are forgotten, as they were, or read as trees that nobody writes. -/
def FgV (S : List (Id × Blk)) : List AV → List AV → Prop
  | [], [] => True
  | c :: cs, d :: ds => (d = .top ∨ d = c ∨ View (Store.of S) c d) ∧ FgV S cs ds
  | _, _ => False

theorem FgV.rep {own : Nat → Prop} {E : Env} {w : World} {S : List (Id × Blk)} (hi : Inv G own E w (Store.of S)) : ∀ {cs ds : List AV} {vs : List Value}, FgV S cs ds → RepL E w cs vs → RepL ⟨E.μ, (E.froze (Store.of S)).ok⟩ w ds vs
  | [], [], _, _, h => by simpa [RepL] using h
  | c :: cs, d :: ds, vs, hf, h => by
    simp only [FgV] at hf
    simp only [RepL] at h ⊢
    obtain ⟨v, rest, e, h1, h2⟩ := h
    refine ⟨v, rest, e, ?_, FgV.rep hi hf.2 h2⟩
    rcases hf.1 with rfl | rfl | hv
    · simp [Rep]
    · exact Rep.keep (⟨fun _ _ h => h, fun _ h => .inl h, fun _ _ => rfl⟩ : Step E ⟨E.μ, (E.froze (Store.of S)).ok⟩ w w) _ v h1
    · exact Rep.keep (⟨fun _ _ h => by simp [Env.froze] at h, fun _ h => h, fun _ _ => rfl⟩ : Step (E.froze (Store.of S)) ⟨E.μ, (E.froze (Store.of S)).ok⟩ w w) _ v (hv _ _ _ _ _ hi h1)
  | [], _ :: _, _, h, _ => by simp [FgV] at h
  | _ :: _, [], _, h, _ => by simp [FgV] at h

/-- Blocks are frozen, slots and blocks forgotten. -/
theorem Wk.freeze {π : Id} {t t' : List AV} {σ σ' : Store} {n n' : Nat} (S : List (Id × Blk)) (hS : ∀ x ∈ S, σ x.1 = some x.2) (ht : FgV S t t')
    (hs : ∀ id, σ' id = none ∨ σ' id = σ.app (frz S) id) (hn : n ≤ n') : Wk G π ⟨t, σ, n⟩ ⟨t', σ', n'⟩ := fun own E w a hm => by
  have hi := hm.inv
  let E' : Env := ⟨E.μ, (E.froze (Store.of S)).ok⟩
  have hadv : Adv own E E' w w := by
    refine ⟨⟨fun _ _ h => h, fun b hb => .inl hb, fun b hb => rfl⟩, rfl, rfl, rfl, Nat.le_refl _, fun k hk _ => rfl, fun b hb => ?_⟩
    rcases hb with h1 | ⟨id, bk, k, N, hs, hm⟩
    · exact .inl h1
    · obtain ⟨g, N', cur, ty, hB⟩ := hi.blk id bk (hS _ (lookup_mem hs))
      rw [hB.μ] at hm
      simp only [Option.some.injEq, Prod.mk.injEq] at hm
      rw [← hm.1]; exact .inr hB.own
  refine ⟨E', ⟨hadv, fun _ _ => rfl⟩, ht.rep (hi.sub (Store.of_sub hS)) hm.frame, ?_, hm.free.mono hn, hm.defers⟩
  refine Inv.sub (σ := σ.app (frz S)) ?_ hs
  have happ := fun i => app_frz (σ := σ) i S σ hS
  refine ⟨(hi.froze hS).okb, fun id bk hs => ?_, fun i j x y hi' hj' hne hx hy => ?_, fun g cs hg => ?_, hi.new⟩
  · have hs' : σ.app (frz S) id = some bk := hs
    rw [happ id] at hs'
    split at hs'
    · rename_i hin
      obtain ⟨x, hx, rfl⟩ := hin
      rw [hS x hx] at hs'
      simp only [Option.map_some, Option.some.injEq] at hs'
      subst hs'
      obtain ⟨g, N, cur, ty, hB⟩ := hi.blk _ _ (hS x hx)
      exact ⟨g, N, cur, ty, hB.μ, hB.heap, hB.size, hB.len, hB.most, hB.own, fun _ => .inr ⟨x.1, x.2, x.2.k, N, of_of_mem hS hx, hB.μ⟩, fun hf => by simp [Blk.fz] at hf, hB.k, RepAt.keep hadv.step rfl hB.row⟩
    · rename_i hnin
      obtain ⟨g, N, cur, ty, hB⟩ := hi.blk _ _ hs'
      have hg := cells_lt hB.heap
      refine ⟨g, N, cur, ty, hB.keep hadv.step rfl fun hf hb => ?_⟩
      rcases hb with h1 | ⟨id2, bk2, k2, N2, hs2, hm2⟩
      · exact hB.no hf h1
      · have hm := lookup_mem hs2
        refine hi.inj id id2 _ _ (by simp [hs']) (by simp [hS _ hm]) ?_ hB.μ hm2 rfl
        rintro rfl
        exact hnin ⟨_, hm, rfl⟩
  · have keep : ∀ i, σ.app (frz S) i ≠ none → σ i ≠ none := by
      intro i hn he
      apply hn
      rw [happ i, he]
      split <;> rfl
    exact hi.inj i j x y (keep i hi') (keep j hj') hne hx hy
  · obtain ⟨h1, h2⟩ := hi.glob g cs hg
    exact ⟨hadv.step.ok g h1, RepCells.keep hadv.step.bare (hadv.step.same g h1) cs 0 h2⟩

end

end Go.VL
