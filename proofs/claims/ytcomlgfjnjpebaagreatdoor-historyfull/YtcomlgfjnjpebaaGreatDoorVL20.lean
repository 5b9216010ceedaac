/- The V-layer, part 20: a function's code as a call that reads and writes blocks of its caller. -/
import Derived.Test.YtcomlgfjnjpebaaGreatDoorVL19
namespace Go.VL

/-- The store that holds the blocks of a list. -/
def Store.of (S : List (Id × Blk)) : Store := fun i => S.lookup i

theorem lookup_mem {S : List (Id × Blk)} {i : Id} {b : Blk} : S.lookup i = some b → (i, b) ∈ S := by
  induction S with
  | nil => intro h; simp at h
  | cons x S ih =>
    intro h
    obtain ⟨j, c⟩ := x
    simp only [List.lookup_cons] at h
    split at h
    · rename_i he
      have : i = j := by simpa using he
      subst this
      simp only [Option.some.injEq] at h; subst h; simp
    · exact List.mem_cons_of_mem _ (ih h)

theorem Store.of_sub {S : List (Id × Blk)} {σ : Store} (h : ∀ x ∈ S, σ x.1 = some x.2) (i : Id) : Store.of S i = none ∨ Store.of S i = σ i := by
  cases hl : S.lookup i with
  | none => exact .inl hl
  | some b => right; show S.lookup i = σ i; rw [hl]; exact (h _ (lookup_mem hl)).symm

/-- Updates of a store: what they say of a name. -/
theorem Store.app_at (up : List (Id × Option Blk)) (σ σ' : Store) (i : Id) (h : (∃ x ∈ up, x.1 = i) ∨ σ i = σ' i) : σ.app up i = σ'.app up i := by
  induction up generalizing σ σ' with
  | nil => rcases h with ⟨x, hx, _⟩ | h
           · simp at hx
           · exact h
  | cons x up ih =>
    obtain ⟨j, b⟩ := x
    simp only [Store.app]
    apply ih
    by_cases hj : i = j
    · right; subst hj; simp [Store.put]
    · rcases h with ⟨y, hy, he⟩ | h
      · simp only [List.mem_cons] at hy
        rcases hy with rfl | hy
        · exact absurd he.symm hj
        · exact .inl ⟨y, hy, he⟩
      · right; simp [Store.put, hj, h]
theorem Store.app_out (up : List (Id × Option Blk)) (σ : Store) (i : Id) (h : ∀ x ∈ up, x.1 ≠ i) : σ.app up i = σ i := by
  induction up generalizing σ with
  | nil => rfl
  | cons x up ih =>
    obtain ⟨j, b⟩ := x
    simp only [Store.app]
    rw [ih _ fun y hy => h y (List.mem_cons_of_mem _ hy), Store.put_other]
    exact fun e => h (j, b) (by simp) e.symm

section
variable {P : Program} {G : Nat → Option (List AV)}

/-- How a function's end is seen by its caller, from which it had the blocks of S. -/
def Fin (G : Nat → Option (List AV)) (p : Id) (S : List (Id × Blk)) (σ' : Store) (r0 : AV) (r : Res) : Prop :=
  ∀ own E w v, Inv G own E w σ' → Rep E w r0 v → E.μ p = none → ∃ E', AdvP own p E E' w w ∧ Inv G own E' w ((Store.of S).app r.up) ∧ Rep E' w r.val v

def EndQ (G : Nat → Option (List AV)) (p : Id) (S : List (Id × Blk)) (rs : List VRes) (r : Res) (e : VExit) (s : VS) : Prop :=
  (e = .normal ∨ e = .ret) ∧ ∃ r0, outAV rs s = some r0 ∧ Fin G p S s.σ r0 r

theorem CallRel.of_VW {f : FuncId} {fn : Func} {vf : VFunc} (hf : P.funcs[f]? = some fn) (hc : cFunc P fn = some vf) {args : List AV} {p : Id} {S : List (Id × Blk)} {r : Res}
    (h : VW P G p vf.body (EndQ G p S vf.results r) ⟨args ++ List.replicate (vf.nt - args.length) (.tup []), Store.of S, 0⟩) : CallRel P G f args p S r := by
  unfold cFunc at hc
  split at hc
  · simp at hc
  · rename_i hname
    split at hc
    · rename_i c rs hb hrs
      simp only [Option.map_eq_some_iff] at hc
      obtain ⟨vb, hvb, rfl⟩ := hc
      refine ⟨⟨fn, hf, by simpa using hname, by simp [hb]⟩, fun own E w σ vs hS hi hr hμ => ?_⟩
      refine calls_of_wp hf hb ?_
      have hal : vs.length = args.length := RepL.len hr
      let own' : Nat → Prop := fun g => (∃ x ∈ S, ∃ y, E.μ x.1 = some y ∧ y.1 = g) ∨ w.heap.size ≤ g
      have hsub : ∀ i, Store.of S i = none ∨ Store.of S i = σ i := Store.of_sub hS
      have hown : ∀ g, own' g → own g := by
        rintro g (⟨x, hx, y, hy, rfl⟩ | hg)
        · obtain ⟨g, N, cur, ty, hB⟩ := hi.blk _ _ (hS x hx)
          have := hB.μ.symm.trans hy
          simp only [Option.some.injEq] at this
          subst this
          exact hB.own
        · exact hi.new g hg
      have hi0 : Inv G own' E w (Store.of S) := by
        refine ⟨hi.okb, fun id bk hs => ?_, (hi.sub hsub).inj, hi.glob, fun k hk => .inr hk⟩
        have hm := lookup_mem hs
        obtain ⟨g, N, cur, ty, hB⟩ := hi.blk _ _ (hS _ hm)
        exact ⟨g, N, cur, ty, hB.μ, hB.heap, hB.size, hB.len, hB.most, .inl ⟨_, hm, _, hB.μ, rfl⟩, hB.ok, hB.no, hB.k, hB.row⟩
      have hm : Matched G p own' E w ⟨args ++ List.replicate (fn.ntmps - args.length) (.tup []), Store.of S, 0⟩
          { tmps := vs.toArray ++ Array.replicate (fn.ntmps - vs.toArray.size) undef, defers := [] } := by
        refine ⟨?_, hi0, fun j hj _ => hμ j hj, rfl⟩
        show RepL _ w _ _
        simp only [Array.toList_append, Array.toList_replicate, List.size_toArray, hal]
        refine RepL.append hr (repL_iff.2 ⟨by simp, fun j c hj => ?_⟩)
        have hjl : j < fn.ntmps - args.length := by have := (List.getElem?_eq_some_iff.1 hj).1; simpa using this
        simp only [List.getElem?_replicate, hjl, if_true, Option.some.injEq] at hj ⊢
        subst hj
        exact ⟨undef, rfl, by simp only [Rep, undef]; exact ⟨#[], rfl, by simp [RepL]⟩⟩
      refine h c hvb own' E w _ _ hm ?_
      intro e s' E' w' a' hq had hm'
      obtain ⟨he, r0, hr0, hfin⟩ := hq
      obtain ⟨v, hv1, hv2⟩ := results_run hm' hrs hr0
      obtain ⟨E2, had2, hi2, hv3⟩ := hfin own' E' w' v hm'.inv hv2 hm'.free.self
      have hadv : AdvP own' p E E2 w w' := had.trans had2
      have hadvo : Adv own E E2 w w' :=
        ⟨hadv.step, hadv.os, hadv.tape, hadv.output, hadv.size, fun k hk ho => hadv.block k hk fun h => ho (hown k h), fun b hb => (hadv.okn b hb).imp id (hown b)⟩
      -- a block of the caller that the function did not have
      have key : ∀ i bk, σ i = some bk → Store.of S i = none → ∀ g N cur ty, BlkAt E own w i bk g N cur ty → ¬ own' g := by
        intro i bk hs hn g N cur ty hB
        rintro (⟨x, hx, y, hy, he⟩ | hg)
        · refine hi.inj x.1 i y (g, bk.k, N) (by simp [hS x hx]) (by simp [hs]) ?_ hy hB.μ he
          intro e
          have := hS x hx
          have h1 : (Store.of S) x.1 ≠ none := by
            show S.lookup x.1 ≠ none
            intro hl
            rw [List.lookup_eq_none_iff] at hl
            have := hl x hx
            simp at this
          rw [e] at h1
          exact h1 hn
        · have := cells_lt hB.heap; omega
      have fin : ∃ v', Ending.returned v = .returned v' ∧ OpPost G own E w σ p r v' E2 w' := by
        refine ⟨v, rfl, hadvo, ?_, hv3, hadv.ids⟩
        -- the invariant of the caller's store
        have cases_app : ∀ i, (σ.app r.up i = (Store.of S).app r.up i) ∨ (σ.app r.up i = σ i ∧ (Store.of S i = none)) := by
          intro i
          by_cases h : (∃ x ∈ r.up, x.1 = i) ∨ σ i = Store.of S i
          · exact .inl (Store.app_at r.up σ (Store.of S) i h)
          · right
            have h1 : ∀ x ∈ r.up, x.1 ≠ i := fun x hx e => h (.inl ⟨x, hx, e⟩)
            refine ⟨Store.app_out r.up σ i h1, ?_⟩
            rcases hsub i with h2 | h2
            · exact h2
            · exact absurd (.inr h2.symm) h
        have hold : ∀ i bk, σ i = some bk → Store.of S i = none → ∃ g N cur ty, BlkAt E own w i bk g N cur ty ∧ BlkAt E2 own w' i bk g N cur ty ∧ ¬ own' g := by
          intro i bk hs hn
          obtain ⟨g, N, cur, ty, hB⟩ := hi.blk i bk hs
          have hno := key i bk hs hn g N cur ty hB
          refine ⟨g, N, cur, ty, hB, hB.keep hadv.step (hadv.block g (cells_lt hB.heap) hno) (fun hf hok => ?_), hno⟩
          exact (hadv.okn g hok).elim (hB.no hf) hno
        refine ⟨hi2.okb, fun i bk hs => ?_, fun i j x y hi' hj' hne hx hy => ?_, hi2.glob, fun k hk => hi.new k (Nat.le_trans hadv.size hk)⟩
        · rcases cases_app i with h1 | ⟨h1, h2⟩
          · rw [h1] at hs
            obtain ⟨g, N, cur, ty, hB⟩ := hi2.blk i bk hs
            exact ⟨g, N, cur, ty, hB.μ, hB.heap, hB.size, hB.len, hB.most, hown g hB.own, hB.ok, hB.no, hB.k, hB.row⟩
          · rw [h1] at hs
            obtain ⟨g, N, cur, ty, _, hB, _⟩ := hold i bk hs h2
            exact ⟨g, N, cur, ty, hB⟩
        · have new : ∀ i x, σ.app r.up i ≠ none → σ.app r.up i = (Store.of S).app r.up i → E2.μ i = some x → own' x.1 := by
            intro i x hn he hx
            rw [he] at hn
            cases hb : (Store.of S).app r.up i with
            | none => exact absurd hb hn
            | some bk =>
              obtain ⟨g, N, cur, ty, hB⟩ := hi2.blk i bk hb
              have := hB.μ.symm.trans hx
              simp only [Option.some.injEq] at this
              subst this
              exact hB.own
          have old : ∀ i x, σ.app r.up i ≠ none → σ.app r.up i = σ i → Store.of S i = none → E2.μ i = some x → ¬ own' x.1 := by
            intro i x hn he hs hx
            rw [he] at hn
            cases hb : σ i with
            | none => exact absurd hb hn
            | some bk =>
              obtain ⟨g, N, cur, ty, _, hB, hno⟩ := hold i bk hb hs
              have := hB.μ.symm.trans hx
              simp only [Option.some.injEq] at this
              subst this
              exact hno
          rcases cases_app i with h1 | ⟨h1, h2⟩ <;> rcases cases_app j with h3 | ⟨h3, h4⟩
          · exact hi2.inj i j x y (h1 ▸ hi') (h3 ▸ hj') hne hx hy
          · intro e; exact old j y hj' h3 h4 hy (e ▸ new i x hi' h1 hx)
          · intro e; exact old i x hi' h1 h2 hx (e ▸ new j y hj' h3 hy)
          · have lift : ∀ i x, σ.app r.up i ≠ none → σ.app r.up i = σ i → Store.of S i = none → E2.μ i = some x → E.μ i = some x := by
              intro i x hn he hs hx
              rw [he] at hn
              cases hb : σ i with
              | none => exact absurd hb hn
              | some bk =>
                obtain ⟨g, N, cur, ty, hB, hB2, hno⟩ := hold i bk hb hs
                rw [hB.μ, ← hB2.μ, hx]
            exact hi.inj i j x y (h1 ▸ hi') (h3 ▸ hj') hne (lift i x hi' h1 h2 hx) (lift j y hj' h3 h4 hy)
      have fin2 : ∃ v0, (results fn a'.tmps).run P w' = .ok v0 w' ∧ ∃ v' E', Ending.returned v0 = .returned v' ∧ OpPost G own E w σ p r v' E' w' := by
        obtain ⟨v', h1, h2⟩ := fin
        exact ⟨v, hv1, v', E2, h1, h2⟩
      rcases he with rfl | rfl
      · exact ⟨hm'.defers, fin2⟩
      · exact ⟨hm'.defers, fin2⟩
    · simp at hc

/-- Nothing is frozen or named anew. -/
theorem Fin.same {p : Id} {S : List (Id × Blk)} {σ' : Store} {r0 : AV} {r : Res} (hv : r.val = r0) (hs : ∀ i, (Store.of S).app r.up i = none ∨ (Store.of S).app r.up i = σ' i) : Fin G p S σ' r0 r :=
  fun own E w v hi hr _ => ⟨E, AdvP.refl own p E w, hi.sub hs, hv ▸ hr⟩

end

end Go.VL
