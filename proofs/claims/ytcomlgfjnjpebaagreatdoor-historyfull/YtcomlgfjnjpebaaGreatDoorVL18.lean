/- The V-layer, part 18: loops by a ghost state, forgetting slots and blocks. -/
import Derived.Test.YtcomlgfjnjpebaaGreatDoorVL17
import Derived.LoopN
namespace Go.VL

section
variable {P : Program} {G : Nat → Option (List AV)} {π : Id} {Q : VExit → VS → Prop} {s : VS}

/-- The slots of the second are those of the first, or nothing is said of them. -/
def Fg : List AV → List AV → Prop
  | [], [] => True
  | c :: cs, d :: ds => (d = .top ∨ d = c) ∧ Fg cs ds
  | _, _ => False

theorem Fg.rep {E : Env} {w : World} : ∀ {cs ds : List AV} {vs : List Value}, Fg cs ds → RepL E w cs vs → RepL E w ds vs
  | [], [], _, _, h => h
  | c :: cs, d :: ds, vs, hf, h => by
    simp only [Fg] at hf
    simp only [RepL] at h ⊢
    obtain ⟨v, rest, e, h1, h2⟩ := h
    refine ⟨v, rest, e, ?_, Fg.rep hf.2 h2⟩
    rcases hf.1 with rfl | rfl
    · simp [Rep]
    · exact h1
  | [], _ :: _, _, h, _ => by simp [Fg] at h
  | _ :: _, [], _, h, _ => by simp [Fg] at h

theorem Inv.sub {own : Nat → Prop} {E : Env} {w : World} {σ σ' : Store} (h : Inv G own E w σ) (hs : ∀ id, σ' id = none ∨ σ' id = σ id) : Inv G own E w σ' where
  okb := h.okb
  blk := fun id bk hb => by
    rcases hs id with h1 | h1
    · simp [h1] at hb
    · exact h.blk id bk (h1 ▸ hb)
  inj := fun i j x y hi hj hne h1 h2 => by
    refine h.inj i j x y ?_ ?_ hne h1 h2
    · rcases hs i with h | h
      · exact absurd h hi
      · rw [← h]; exact hi
    · rcases hs j with h | h
      · exact absurd h hj
      · rw [← h]; exact hj
  glob := h.glob
  new := h.new

/-- Slots and blocks are forgotten. -/
theorem Wk.forget {t t' : List AV} {σ σ' : Store} {n n' : Nat} (ht : Fg t t') (hs : ∀ id, σ' id = none ∨ σ' id = σ id) (hn : n ≤ n') : Wk G π ⟨t, σ, n⟩ ⟨t', σ', n'⟩ :=
  fun own E w _ hm => ⟨E, AdvP.refl own π E w, ht.rep hm.frame, hm.inv.sub hs, hm.free.mono hn, hm.defers⟩

/-- Only slots are forgotten. -/
theorem Wk.slots {t t' : List AV} {σ : Store} {n n' : Nat} (ht : Fg t t') (hn : n ≤ n') : Wk G π ⟨t, σ, n⟩ ⟨t', σ, n'⟩ := Wk.forget ht (fun _ => .inr rfl) hn

/-- A loop, its states told by a ghost. -/
theorem VW.loopS {α : Type} {x : VCode} (st : α → VS) (Pr : α → Prop) (m : α → Nat) (x0 : α) (hw : Wk G π s (st x0)) (h0 : Pr x0)
    (h : ∀ a, Pr a → vwp P G π x (fun e s' => match e with | .normal => ∃ a', Pr a' ∧ m a' < m a ∧ Wk G π s' (st a') | e => Q e s') (st a)) : VW P G π (.loop x) Q s := by
  refine VW.wk hw ?_
  intro c hc own E w a R hm hR
  cases c <;> simp only [cCode, Option.some.injEq, reduceCtorEq] at hc
  case loop cb =>
    cases h1 : cCode P cb with
    | none => simp [h1] at hc
    | some vb =>
      simp only [h1, Option.map_some, Option.some.injEq, VCode.loop.injEq] at hc
      subst hc
      refine wp_loop_rel (α := α) (fun g a' w' => Pr g ∧ ∃ E', AdvP own π E E' w w' ∧ Matched G π own E' w' (st g) a') m (x := x0) ⟨h0, E, AdvP.refl own π E w, hm⟩ ?_
      rintro g a2 w2 ⟨hI2, E2, ad2, hm2⟩
      refine VW.of (h g hI2) cb h1 own E2 w2 a2 _ hm2 ?_
      intro e s' E' w' a' hq had hm'
      cases e with
      | normal =>
        obtain ⟨g', hI3, hlt, hw3⟩ := hq
        obtain ⟨E3, ad3, hm3⟩ := hw3 own E' w' a' hm'
        exact ⟨g', ⟨hI3, E3, (ad2.trans had).trans ad3, hm3⟩, hlt⟩
      | exit id => exact hR (.exit id) s' E' w' a' hq (ad2.trans had) hm'
      | ret => exact hR .ret s' E' w' a' hq (ad2.trans had) hm'
  case region => exfalso; revert hc; unfold cRegion; (repeat' split) <;> simp
  all_goals (exfalso; revert hc; (repeat' split) <;> simp)

/-- The rounds of a loop, at most so many. -/
def VRd (P : Program) (G : Nat → Option (List AV)) (π : Id) (x : VCode) (Q : VExit → VS → Prop) : Nat → VS → Prop
  | 0, _ => False
  | n + 1, s => VW P G π x (Then (VRd P G π x Q n) Q) s

theorem VW.rounds {x : VCode} (n : Nat) (h : VRd P G π x Q n s) : VW P G π (.loop x) Q s := by
  intro c hc own E w a R hm hR
  cases c <;> simp only [cCode, Option.some.injEq, reduceCtorEq] at hc
  case loop cb =>
    cases h1 : cCode P cb with
    | none => simp [h1] at hc
    | some vb =>
      simp only [h1, Option.map_some, Option.some.injEq, VCode.loop.injEq] at hc
      subst hc
      refine wp_loop_rounds n ?_
      have key : ∀ n s E2 w2 a2, VRd P G π vb Q n s → AdvP own π E E2 w w2 → Matched G π own E2 w2 s a2 → Code.rounds P cb R n a2 w2 := by
        intro n
        induction n with
        | zero => intro s E2 w2 a2 h _ _; exact h.elim
        | succ n ih =>
          intro s E2 w2 a2 h ad hm
          refine h cb h1 own E2 w2 a2 _ hm ?_
          intro e s' E' w' a' hq had hm'
          cases e with
          | normal => exact ih s' E' w' a' hq (ad.trans had) hm'
          | exit id => exact hR (.exit id) s' E' w' a' hq (ad.trans had) hm'
          | ret => exact hR .ret s' E' w' a' hq (ad.trans had) hm'
      exact key n s E w a h (AdvP.refl own π E w) hm
  case region => exfalso; revert hc; unfold cRegion; (repeat' split) <;> simp
  all_goals (exfalso; revert hc; (repeat' split) <;> simp)

end

end Go.VL
