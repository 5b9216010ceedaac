/- The V-layer, part 12: calls, and a statement's operations one after the other. -/
import Derived.Test.YtcomlgfjnjpebaaGreatDoorVL11
namespace Go.VL

/-- What a call comes to: S: the blocks that it reads. -/
def CallRel (P : Program) (G : Nat → Option (List AV)) (f : FuncId) (args : List AV) (p : Id) (S : List (Id × Blk)) (r : Res) : Prop :=
  (∃ fn, P.funcs[f]? = some fn ∧ (fn.name == "runtime.NumGoroutine") = false ∧ fn.body.isSome = true) ∧
  ∀ own E w σ vs, (∀ x ∈ S, σ x.1 = some x.2) → Inv G own E w σ → RepL E w args vs → (∀ j, p <:+ j → E.μ j = none) →
    Calls P f vs.toArray w fun e w' => ∃ v E', e = .returned v ∧ OpPost G own E w σ p r v E' w'

/-- An operation comes to r. -/
def stepRel (P : Program) (G : Nat → Option (List AV)) (σ : Store) (p : Id) (op : VOp AV) (r : Res) : Prop :=
  match op with
  | .call f as => match f with
    | .fn (.func f) first cap => ∃ S, CallRel P G f (first ++ as ++ cap) p S r ∧ (∀ x ∈ S, σ x.1 = some x.2) ∧ ∀ x ∈ S, x.1 ∈ r.rd
    | _ => False
  | op => vop σ p op = some r

def putT (t : List AV) (d : Option Nat) (v : AV) : List AV := match d with | some d => t.set d v | none => t

/-- Does the operation run? -/
def vwanted (t : List AV) : Option (Nat × Bool) → Option Bool
  | none => some true
  | some (d, want) => match t[d]? with
    | some (.bool b) => some (b == want)
    | some .top | some .anyb => none
    | _ => some false

section
variable {P : Program} {G : Nat → Option (List AV)} {own : Nat → Prop} {E : Env} {w : World} {σ : Store} {p : Id}

theorem FrameRep.keep {E' : Env} {w' : World} {t : List AV} {a : Act} (h : FrameRep E w t a) (s : Step E E' w w') : FrameRep E' w' t a := RepL.keep s t _ h

theorem FrameRep.put {t : List AV} {a : Act} (h : FrameRep E w t a) {c : AV} {v : Value} (hv : Rep E w c v) (d : Option Nat) : FrameRep E w (putT t d c) (a.put d v) := by
  cases d with
  | none => exact h
  | some d =>
    obtain ⟨hl, hp⟩ := repL_iff.1 h
    refine repL_iff.2 ⟨by simpa [putT, Act.put] using hl, fun j c' hj => ?_⟩
    simp only [putT, List.getElem?_set] at hj
    simp only [Act.put, Array.toList_setIfInBounds, List.getElem?_set]
    split at hj
    · rename_i e
      subst e
      split at hj
      · rename_i hlt
        simp only [Option.some.injEq] at hj; subst hj
        exact ⟨v, by rw [if_pos rfl, if_pos (by omega)], hv⟩
      · simp at hj
    · rename_i e
      rw [if_neg e]
      exact hp j c' hj

theorem FrameRep.at? {t : List AV} {a : Act} (h : FrameRep E w t a) (d : Nat) : (t[d]? = none ∧ a.tmps[d]? = none) ∨ ∃ c v, t[d]? = some c ∧ a.tmps[d]? = some v ∧ Rep E w c v := by
  obtain ⟨hl, hp⟩ := repL_iff.1 h
  by_cases hd : d < t.length
  · right
    obtain ⟨v, hv, hr⟩ := hp d t[d] (by simp [hd])
    exact ⟨t[d], v, by simp [hd], by simpa using hv, hr⟩
  · left
    have : a.tmps.size ≤ d := by have := hl; simp at this; omega
    exact ⟨by simp; omega, by simp; omega⟩

theorem rep_not_bool {c : AV} {v : Value} (h : Rep E w c v) (h1 : ∀ b, c ≠ .bool b) (h2 : c ≠ .top) (h3 : c ≠ .anyb) : ∀ b, v ≠ .bool b := by
  intro b e
  subst e
  cases c <;> simp only [Rep, reduceCtorEq, exists_const, false_and, and_false] at h
  · exact h1 _ rfl
  all_goals first
    | exact h2 rfl
    | exact h3 rfl
    | (obtain ⟨_, _, h, _⟩ := h; cases h)
    | (obtain ⟨_, h, _⟩ := h; cases h)
    | (obtain ⟨_, _, h⟩ := h; cases h)

/-- Whether an operation runs is seen on the trees. -/
theorem wanted_iff {ops : Array Oper} {o : Oper} {vo : VOper} (hc : cOper P ops o = some vo) {t : List AV} {a : Act} (hf : FrameRep E w t a) {b : Bool} (h : vwanted t vo.guard = some b) : Region.wanted o (yielded ops a.tmps) = b := by
  unfold cOper at hc
  cases hop : cOp P o.op with
  | none => simp [hop] at hc
  | some op =>
    simp only [hop] at hc
    cases hg : o.guard with
    | none =>
      simp only [hg, Option.some.injEq] at hc; subst hc
      simp only [vwanted, Option.some.injEq] at h; subst h
      simp [Region.wanted, hg]
    | some jw =>
      obtain ⟨j, want⟩ := jw
      simp only [hg] at hc
      cases hd : (ops[j]?).bind (·.dst) with
      | none => simp [hd] at hc
      | some d =>
        simp only [hd, Option.some.injEq] at hc; subst hc
        simp only [vwanted] at h
        simp only [Region.wanted, hg, yielded, hd, Option.bind_some]
        rcases hf.at? d with ⟨h1, h2⟩ | ⟨c, v, h1, h2, hr⟩
        · simp only [h1, Option.some.injEq] at h; subst h
          simp [h2]
        · simp only [h1] at h
          simp only [h2]
          cases c with
          | bool b' =>
            simp only [Option.some.injEq] at h; subst h
            simp only [Rep] at hr; subst hr
            simp
          | top => simp at h
          | anyb => simp at h
          | _ =>
            simp only [Option.some.injEq] at h; subst h
            have hnb := rep_not_bool hr (by simp) (by simp) (by simp)
            cases v <;> simp at hnb ⊢

theorem cOper_op {ops : Array Oper} {o : Oper} {vo : VOper} (hc : cOper P ops o = some vo) : cOp P o.op = some vo.op ∧ vo.dst = o.dst := by
  unfold cOper at hc
  cases hop : cOp P o.op with
  | none => simp [hop] at hc
  | some op =>
    simp only [hop] at hc
    split at hc
    · simp only [Option.some.injEq] at hc; subst hc; simp_all
    · split at hc
      · simp only [Option.some.injEq] at hc; subst hc; simp_all
      · simp at hc
    · simp_all

theorem cExt_ne {k : ExtK} {l : List Operand} (f : VArg) (as : List VArg) : cExt k l ≠ some (.call f as) := by
  unfold cExt
  split
  · split
    · cases k <;> simp
    · simp
  · simp

/-- One operation. -/
theorem step_sound (hi : Inv G own E w σ) (hμ : ∀ j, p <:+ j → E.μ j = none) {t : List AV} {a : Act} (hf : FrameRep E w t a) {o : Oper} {vo : VOp VArg} (hc : cOp P o.op = some vo) {r : Res}
    (h : stepRel P G σ p (vo.map (VArg.ev G t)) r) {K : Act → World → Prop} {Q : Exit → Act → World → Prop} (hK : ∀ v w' E', OpPost G own E w σ p r v E' w' → K (a.put o.dst v) w') : o.wp P a w K Q := by
  have hσ : σ p = none := by
    cases hs : σ p with
    | none => rfl
    | some bk => obtain ⟨g, N, cur, ty, hB⟩ := hi.blk _ _ hs; have := hB.μ; rw [hμ _ (List.suffix_refl _)] at this; simp at this
  have plain : vop σ p (vo.map (VArg.ev G t)) = some r → o.wp P a w K Q := by
    intro hv
    obtain ⟨v, w', E', hrun, hp⟩ := op_sound hi (hμ p (List.suffix_refl _)) hσ hf hc hv
    unfold Oper.wp
    rcases hrun with hrun | ⟨hrun, rfl⟩
    · rw [hrun]; exact hK v w' E' hp
    · rw [hrun]; exact hK undef w' E' hp
  cases vo with
  | call f as =>
    replace hc : cOp0 P o.op = some (.call f as) := by
      unfold cOp at hc
      split at hc
      · rename_i v hv; rw [hv]; exact hc
      · simp at hc
    simp only [VOp.map, stepRel] at h
    split at h
    · rename_i f' fid first cap hfe
      obtain ⟨S, hcall, hS, _⟩ := h
      obtain ⟨⟨fn, hfn, hname, hbody⟩, hcall⟩ := hcall
      cases hop : o.op with
      | call c =>
        rw [hop] at hc
        simp only [cOp0] at hc
        cases hcal : c.callee with
        | value fo =>
          simp only [hcal] at hc
          split at hc
          case h_2 => exact absurd hc (cExt_ne _ _)
          split at hc
          · rename_i vf vas h1 h2
            simp only [Option.some.injEq, VOp.call.injEq] at hc
            obtain ⟨rfl, rfl⟩ := hc
            have hrf := cArg_rep hf hi h1
            rw [hfe] at hrf
            simp only [Rep] at hrf
            obtain ⟨xs, ys, hfv, hx, hy⟩ := hrf
            have hra := cArgs_rep hf hi h2
            have hargs : RepL E w (first ++ vas.map (VArg.ev G t) ++ cap) (xs.toList ++ (c.args.map a.eval).toList ++ ys.toList) := RepL.append (RepL.append hx hra) hy
            have hcl := hcall own E w σ _ hS hi hargs hμ
            have hrun : (execOp a.eval o).run P w = .ok (.enter fid (xs ++ c.args.map a.eval ++ ys)) w := by
              have hnb : ¬ fn.body = none := by intro e; simp [e] at hbody
              have hnn : ¬ fn.name = "runtime.NumGoroutine" := by intro e; simp [e] at hname
              simp [execOp, hop, resolve, hcal, hfv, Deferred.ofValue, invoke, callFunc, hfn, hnn, hnb]
            unfold Oper.wp
            rw [hrun, Oper.upon_enter]
            have hae : (xs.toList ++ (c.args.map a.eval).toList ++ ys.toList).toArray = xs ++ c.args.map a.eval ++ ys := by apply Array.ext'; simp
            rw [hae] at hcl
            refine hcl.mono fun e w' he => ?_
            obtain ⟨v, E', rfl, hp⟩ := he
            exact hK v w' E' hp
          · simp at hc
        | invoke _ _ => simp [hcal] at hc
        | builtin b =>
          simp only [hcal] at hc
          unfold cBuiltin at hc
          split at hc <;> (try split at hc) <;> (try split at hc) <;> (try split at hc) <;> (try split at hc) <;> simp at hc
      | _ =>
        rw [hop] at hc
        simp only [cOp0] at hc
        exfalso
        revert hc
        clear plain hfe
        intro hc
        first
          | simp at hc
          | (simp only [Option.map_eq_some_iff] at hc; obtain ⟨_, _, hc⟩ := hc; cases hc)
          | ((repeat' split at hc) <;> first | (simp at hc; done) | (simp only [Option.map_eq_some_iff] at hc; obtain ⟨_, _, hc⟩ := hc; cases hc) | (cases hc))
    · exact h.elim
  | _ => exact plain h

end

end Go.VL
