/- The V-layer, part 16: code over trees, and that it is sound. -/
import Derived.Test.YtcomlgfjnjpebaaGreatDoorVL15
namespace Go.VL

inductive VExit where
  | normal
  | exit (id : Nat)
  | ret

def VExit.real : VExit → Exit
  | .normal => .normal
  | .exit id => .exit id
  | .ret => .ret

/-- A state: the slots, the store, and a number from which on no block is named. -/
structure VS where
  t : List AV
  σ : Store
  n : Nat

structure Matched (G : Nat → Option (List AV)) (π : Id) (own : Nat → Prop) (E : Env) (w : World) (s : VS) (a : Act) : Prop where
  frame : FrameRep E w s.t a
  inv : Inv G own E w s.σ
  free : Free E π s.n
  defers : a.defers = []

/-- s' says less than s. -/
def Wk (G : Nat → Option (List AV)) (π : Id) (s s' : VS) : Prop := ∀ own E w a, Matched G π own E w s a → ∃ E', AdvP own π E E' w w ∧ Matched G π own E' w s' a

/-- Code that ends, from s on, in one of the ways that Q speaks of. -/
def VW (P : Program) (G : Nat → Option (List AV)) (π : Id) (vc : VCode) (Q : VExit → VS → Prop) (s : VS) : Prop :=
  ∀ c, cCode P c = some vc → ∀ own E w a (R : Exit → Act → World → Prop), Matched G π own E w s a →
    (∀ e s' E' w' a', Q e s' → AdvP own π E E' w w' → Matched G π own E' w' s' a' → R e.real a' w') → c.wp P R a w

section
variable {P : Program} {G : Nat → Option (List AV)} {π : Id} {Q : VExit → VS → Prop} {s : VS}

theorem Wk.refl (G : Nat → Option (List AV)) (π : Id) (s : VS) : Wk G π s s := fun own E w _ h => ⟨E, AdvP.refl own π E w, h⟩
theorem Wk.trans {s s' s'' : VS} (h : Wk G π s s') (k : Wk G π s' s'') : Wk G π s s'' := fun own E w a hm => by
  obtain ⟨E1, a1, m1⟩ := h own E w a hm
  obtain ⟨E2, a2, m2⟩ := k own E1 w a m1
  exact ⟨E2, a1.trans a2, m2⟩

theorem VW.wk {vc : VCode} {s' : VS} (h : Wk G π s s') (k : VW P G π vc Q s') : VW P G π vc Q s := by
  intro c hc own E w a R hm hR
  obtain ⟨E1, a1, m1⟩ := h own E w a hm
  exact k c hc own E1 w a R m1 fun e s2 E2 w2 a2 hq ad mm => hR e s2 E2 w2 a2 hq (a1.trans ad) mm

theorem VW.mono {vc : VCode} {Q' : VExit → VS → Prop} (h : VW P G π vc Q s) (hq : ∀ e s, Q e s → Q' e s) : VW P G π vc Q' s :=
  fun c hc own E w a R hm hR => h c hc own E w a R hm fun e s2 E2 w2 a2 hq2 => hR e s2 E2 w2 a2 (hq e s2 hq2)

theorem VW.skip (h : Q .normal s) : VW P G π .skip Q s := by
  intro c hc own E w a R hm hR
  cases c <;> simp only [cCode, Option.some.injEq, reduceCtorEq] at hc
  · exact wp_skip (hR .normal s E w a h (AdvP.refl own π E w) hm)
  · exfalso; revert hc; unfold cRegion; (repeat' split) <;> simp
  all_goals (exfalso; revert hc; (repeat' split) <;> simp)

theorem cCode_region {c : Code} {ps : Option (List (Nat × Nat))} {vs : List VOper} (hc : cCode P c = some (.reg ps vs)) : ∃ id ops draw, c = .region id ops draw ∧ ops.toList.mapM (cOper P ops) = some vs ∧
    ((draw = false ∧ ps = none) ∨ (draw = true ∧ ps = some (freePairs vs (ops.toList.map onsOf)) ∧ orderOk vs (ops.toList.map onsOf) = true ∧ P.follows .mixedOrders = true)) := by
  cases c with
  | region id ops draw =>
    simp only [cCode, cRegion] at hc
    cases hm : ops.toList.mapM (cOper P ops) with
    | none => simp [hm] at hc
    | some vs' =>
      simp only [hm] at hc
      split at hc
      · rename_i hd
        split at hc
        · rename_i ho
          simp only [Option.some.injEq, VCode.reg.injEq] at hc
          obtain ⟨rfl, rfl⟩ := hc
          simp only [Bool.and_eq_true] at ho
          exact ⟨id, ops, draw, rfl, hm, .inr ⟨hd, rfl, ho.1, ho.2⟩⟩
        · simp at hc
      · rename_i hd
        simp only [Option.some.injEq, VCode.reg.injEq] at hc
        obtain ⟨rfl, rfl⟩ := hc
        exact ⟨id, ops, draw, rfl, hm, .inl ⟨by simpa using hd, rfl⟩⟩
  | _ => exfalso; revert hc; simp only [cCode]; (repeat' split) <;> simp

theorem VW.seqReg {vs : List VOper} (h : vseq P G π s.n (fun t σ => Q .normal ⟨t, σ, s.n + vs.length⟩) vs 0 s.t s.σ) : VW P G π (.reg none vs) Q s := by
  intro c hc own E w a R hm hR
  obtain ⟨id, ops, draw, rfl, hvs, hor⟩ := cCode_region hc
  have hd : draw = false := by
    rcases hor with ⟨h, _⟩ | ⟨_, h, _⟩
    · exact h
    · simp at h
  subst hd
  have hl : ops.toList.length = vs.length := (mapM_some_len hvs).symm
  refine wp_region ?_
  have := vseq_sound (P := P) (G := G) (own := own) (ops := ops) (Q := R) ops.toList 0 (fun k => by simp) vs hvs s.t s.σ a E w h hm.frame hm.inv hm.free (by
    intro t' σ' a' E' w' hk had hf hi hfr hde
    refine hR .normal ⟨t', σ', s.n + vs.length⟩ E' w' a' hk had ⟨hf, hi, by have h := hfr; simp only [Nat.add_zero, hl] at h; exact h, hde.trans hm.defers⟩)
  rw [List.range_eq_range']
  simpa using this

theorem VW.parReg {ps : List (Nat × Nat)} {vs : List VOper} (h : vpar P G π s.n (fun rs t σ => allApart rs ps ∧ Q .normal ⟨t, σ, s.n + vs.length⟩) vs 0 [] s.t s.σ) : VW P G π (.reg (some ps) vs) Q s := by
  intro c hc own E w a R hm hR
  obtain ⟨id, ops, draw, rfl, hvs, hor⟩ := cCode_region hc
  rcases hor with ⟨_, h2⟩ | ⟨hd, hps, hord, hmx⟩
  · simp at h2
  · subst hd
    simp only [Option.some.injEq] at hps
    have hl : vs.length = ops.size := by have := mapM_some_len hvs; simpa using this
    obtain ⟨rs, hrl, hst, hap, hq⟩ := vpar_spec h
    refine wp_region_any hmx ?_
    have hmid : Mid G π own ((vs.map (·.dst)).zip rs) s.n ops.size s.t s.σ a E w (fun i => (Array.replicate ops.size false).getD i false) E w.drew a := by
      have hX : ∀ i, (Array.replicate ops.size false).getD i false = false := by intro i; rw [Array.getD_eq_getD_getElem?]; simp [Array.getElem?_replicate]; split <;> rfl
      have e1 : foldT (fun i => (Array.replicate ops.size false).getD i false) ((vs.map (·.dst)).zip rs) 0 s.t = s.t := foldT_of_none _ _ _ fun k _ => hX _
      have e2 : foldS (fun i => (Array.replicate ops.size false).getD i false) ((vs.map (·.dst)).zip rs) 0 s.σ = s.σ := foldS_of_none _ _ _ fun k _ => hX _
      exact ⟨by rw [e1]; exact hm.frame.keep (Adv.drew (own := own) E w).step, by rw [e2]; exact hm.inv.drew, ⟨Adv.drew E w, fun _ _ => rfl⟩, fun i _ _ j hj => hm.free.at (by omega) hj, hm.free.mono (by omega), rfl⟩
    refine par_sound hvs hord hrl hst (by rw [← hps]; simpa using hap) (Q := R) (a0 := a) (E0 := E) (w0 := w) ?_ ops.size (Array.replicate ops.size false) a E w.drew (by simp) (by simp) ?_ hmid
    · intro a' E' w' hmd
      refine hR .normal _ E' w' a' hq hmd.adv ⟨hmd.frame, hmd.inv, by rw [hl]; exact hmd.more, hmd.defers.trans hm.defers⟩
    · intro k hk hx
      rw [Array.getD_eq_getD_getElem?] at hx
      simp [hk] at hx

theorem VW.seq {x y : VCode} (h : VW P G π x (fun e s' => match e with | .normal => VW P G π y Q s' | e => Q e s') s) : VW P G π (.seq x y) Q s := by
  intro c hc own E w a R hm hR
  cases c <;> simp only [cCode, Option.some.injEq, reduceCtorEq] at hc
  case seq ca cb =>
    cases h1 : cCode P ca with
    | none => simp [h1] at hc
    | some va =>
    cases h2 : cCode P cb with
    | none => simp [h1, h2] at hc
    | some vb =>
      simp only [h1, h2, Option.some.injEq, VCode.seq.injEq] at hc
      obtain ⟨rfl, rfl⟩ := hc
      refine wp_seq (h ca h1 own E w a _ hm ?_)
      intro e s' E' w' a' hq had hm'
      cases e with
      | normal => exact hq cb h2 own E' w' a' R hm' fun e2 s2 E2 w2 a2 hq2 ad2 mm2 => hR e2 s2 E2 w2 a2 hq2 (had.trans ad2) mm2
      | exit id => exact hR (.exit id) s' E' w' a' hq had hm'
      | ret => exact hR .ret s' E' w' a' hq had hm'
  case region => exfalso; revert hc; unfold cRegion; (repeat' split) <;> simp
  all_goals (exfalso; revert hc; (repeat' split) <;> simp)

theorem VW.cond {vc : VArg} {x y : VCode} {b : Bool} (hb : vc.ev G s.t = .bool b) (h : if b then VW P G π x Q s else VW P G π y Q s) : VW P G π (.cond vc x y) Q s := by
  intro c hc own E w a R hm hR
  cases c <;> simp only [cCode, Option.some.injEq, reduceCtorEq] at hc
  case cond cc ca cb =>
    cases h0 : cArg cc with
    | none => simp [h0] at hc
    | some vcc =>
    cases h1 : cCode P ca with
    | none => simp [h0, h1] at hc
    | some va =>
    cases h2 : cCode P cb with
    | none => simp [h0, h1, h2] at hc
    | some vb =>
      simp only [h0, h1, h2, Option.some.injEq, VCode.cond.injEq] at hc
      obtain ⟨rfl, rfl, rfl⟩ := hc
      have hr := cArg_rep hm.frame hm.inv h0
      rw [hb] at hr
      simp only [Rep] at hr
      refine wp_cond hr ?_
      cases b with
      | true => simp only [if_true] at h ⊢; exact h ca h1 own E w a R hm hR
      | false => simp only [Bool.false_eq_true, if_false] at h ⊢; exact h cb h2 own E w a R hm hR
  case region => exfalso; revert hc; unfold cRegion; (repeat' split) <;> simp
  all_goals (exfalso; revert hc; (repeat' split) <;> simp)

theorem VW.condAny {vc : VArg} {x y : VCode} (hb : vc.ev G s.t = .anyb) (h1 : VW P G π x Q s) (h2 : VW P G π y Q s) : VW P G π (.cond vc x y) Q s := by
  intro c hc own E w a R hm hR
  cases c <;> simp only [cCode, Option.some.injEq, reduceCtorEq] at hc
  case cond cc ca cb =>
    cases h0 : cArg cc with
    | none => simp [h0] at hc
    | some vcc =>
    cases h3 : cCode P ca with
    | none => simp [h0, h3] at hc
    | some va =>
    cases h4 : cCode P cb with
    | none => simp [h0, h3, h4] at hc
    | some vb =>
      simp only [h0, h3, h4, Option.some.injEq, VCode.cond.injEq] at hc
      obtain ⟨rfl, rfl, rfl⟩ := hc
      have hr := cArg_rep hm.frame hm.inv h0
      rw [hb] at hr
      simp only [Rep] at hr
      obtain ⟨b, hr⟩ := hr
      refine wp_cond hr ?_
      cases b with
      | true => exact h1 ca h3 own E w a R hm hR
      | false => exact h2 cb h4 own E w a R hm hR
  case region => exfalso; revert hc; unfold cRegion; (repeat' split) <;> simp
  all_goals (exfalso; revert hc; (repeat' split) <;> simp)

theorem VW.block {id : Nat} {x : VCode} (h : VW P G π x (fun e s' => match e with | .exit i => if i = id then Q .normal s' else Q (.exit i) s' | e => Q e s') s) : VW P G π (.block id x) Q s := by
  intro c hc own E w a R hm hR
  cases c <;> simp only [cCode, Option.some.injEq, reduceCtorEq] at hc
  case block i cb =>
    cases h1 : cCode P cb with
    | none => simp [h1] at hc
    | some vb =>
      simp only [h1, Option.map_some, Option.some.injEq, VCode.block.injEq] at hc
      obtain ⟨rfl, rfl⟩ := hc
      refine wp_block (h cb h1 own E w a _ hm ?_)
      intro e s' E' w' a' hq had hm'
      cases e with
      | normal => exact hR .normal s' E' w' a' hq had hm'
      | exit j =>
        simp only [VExit.real, Exit.inBlock]
        split
        · rename_i hj; simp only [hj, if_true] at hq; exact hR .normal s' E' w' a' hq had hm'
        · rename_i hj; simp only [hj, if_false] at hq; exact hR (.exit j) s' E' w' a' hq had hm'
      | ret => exact hR .ret s' E' w' a' hq had hm'
  case region => exfalso; revert hc; unfold cRegion; (repeat' split) <;> simp
  all_goals (exfalso; revert hc; (repeat' split) <;> simp)

theorem VW.exit {id : Nat} (h : Q (.exit id) s) : VW P G π (.exit id) Q s := by
  intro c hc own E w a R hm hR
  cases c <;> simp only [cCode, Option.some.injEq, reduceCtorEq] at hc
  case exit i =>
    simp only [VCode.exit.injEq] at hc; subst hc
    exact wp_exit (hR (.exit i) s E w a h (AdvP.refl own π E w) hm)
  case region => exfalso; revert hc; unfold cRegion; (repeat' split) <;> simp
  all_goals (exfalso; revert hc; (repeat' split) <;> simp)

theorem VW.ret (h : Q .ret s) : VW P G π .ret Q s := by
  intro c hc own E w a R hm hR
  cases c <;> simp only [cCode, Option.some.injEq, reduceCtorEq] at hc
  case ret => exact wp_ret (hR .ret s E w a h (AdvP.refl own π E w) hm)
  case region => exfalso; revert hc; unfold cRegion; (repeat' split) <;> simp
  all_goals (exfalso; revert hc; (repeat' split) <;> simp)

/-- A loop whose measure is seen on something beside the frame. -/
theorem wp_loop_rel {α : Type} {c : Code} {R : Exit → Act → World → Prop} (I : α → Act → World → Prop) (μ : α → Nat) {x : α} {a : Act} {w : World} (h₀ : I x a w)
    (round : ∀ x a w, I x a w → c.wp P (Exit.then (fun a' w' => ∃ x', I x' a' w' ∧ μ x' < μ x) R) a w) : (Code.loop c).wp P R a w := by
  intro b k cs
  have key : ∀ n x a w, μ x = n → I x a w →
      ∃ e a' w', R e a' w' ∧ Arrives P (lone (b.at a (.code c :: .inLoop c :: k)) cs w) b k cs e a' w' := by
    intro n
    induction n using Nat.strongRecOn with
    | _ n ih =>
      intro x a w hn hI
      obtain ⟨e, a₁, w₁, hq, harr⟩ := round x a w hI b (.inLoop c :: k) cs
      cases e with
      | normal =>
        obtain ⟨x₁, hI₁, hlt⟩ := hq
        obtain ⟨e₂, a₂, w₂, hq₂, harr₂⟩ := ih (μ x₁) (hn ▸ hlt) x₁ a₁ w₁ rfl hI₁
        exact ⟨e₂, a₂, w₂, hq₂, .of_steps (Steps.trans harr (.one step_inLoop)) harr₂⟩
      | exit id => exact ⟨_, a₁, w₁, hq, .pass (x := .inLoop c) rfl (fun _ _ => .inl (by simp)) harr⟩
      | goto l => exact ⟨_, a₁, w₁, hq, .pass (x := .inLoop c) rfl (fun _ _ => .inl (by simp)) harr⟩
      | ret => exact ⟨_, a₁, w₁, hq, .pass (x := .inLoop c) rfl (fun _ _ => .inl (by simp)) harr⟩
      | panic ch => exact ⟨_, a₁, w₁, hq, .pass (x := .inLoop c) rfl (fun _ _ => .inl (by simp)) harr⟩
      | outgrown => exact ⟨_, a₁, w₁, hq, .pass (x := .inLoop c) rfl (fun _ _ => .inl (by simp)) harr⟩
  obtain ⟨e, a', w', hq, harr⟩ := key _ x a w rfl h₀
  exact ⟨e, a', w', hq, .of_steps (.one step_loop) harr⟩

theorem VW.loop {x : VCode} (I : VS → Prop) (m : VS → Nat) (h0 : ∃ s', Wk G π s s' ∧ I s')
    (h : ∀ s, I s → VW P G π x (fun e s' => match e with | .normal => ∃ s'', Wk G π s' s'' ∧ I s'' ∧ m s'' < m s | e => Q e s') s) : VW P G π (.loop x) Q s := by
  obtain ⟨s1, hw1, hI1⟩ := h0
  refine VW.wk hw1 ?_
  intro c hc own E w a R hm hR
  cases c <;> simp only [cCode, Option.some.injEq, reduceCtorEq] at hc
  case loop cb =>
    cases h1 : cCode P cb with
    | none => simp [h1] at hc
    | some vb =>
      simp only [h1, Option.map_some, Option.some.injEq, VCode.loop.injEq] at hc
      subst hc
      refine wp_loop_rel (α := VS) (fun s' a' w' => I s' ∧ ∃ E', AdvP own π E E' w w' ∧ Matched G π own E' w' s' a') m (x := s1) ⟨hI1, E, AdvP.refl own π E w, hm⟩ ?_
      rintro s2 a2 w2 ⟨hI2, E2, ad2, hm2⟩
      refine h s2 hI2 cb h1 own E2 w2 a2 _ hm2 ?_
      intro e s' E' w' a' hq had hm'
      cases e with
      | normal =>
        obtain ⟨s3, hw3, hI3, hlt⟩ := hq
        obtain ⟨E3, ad3, hm3⟩ := hw3 own E' w' a' hm'
        exact ⟨s3, ⟨hI3, E3, (ad2.trans had).trans ad3, hm3⟩, hlt⟩
      | exit id => exact hR (.exit id) s' E' w' a' hq (ad2.trans had) hm'
      | ret => exact hR .ret s' E' w' a' hq (ad2.trans had) hm'
  case region => exfalso; revert hc; unfold cRegion; (repeat' split) <;> simp
  all_goals (exfalso; revert hc; (repeat' split) <;> simp)

/-- What comes behind the first of two. -/
def Then (k : VS → Prop) (Q : VExit → VS → Prop) : VExit → VS → Prop
  | .normal, s => k s
  | .exit i, s => Q (.exit i) s
  | .ret, s => Q .ret s
/-- What comes behind a block. -/
def Blkd (id : Nat) (Q : VExit → VS → Prop) : VExit → VS → Prop
  | .normal, s => Q .normal s
  | .exit i, s => if i = id then Q .normal s else Q (.exit i) s
  | .ret, s => Q .ret s
theorem then_normal (k : VS → Prop) (Q : VExit → VS → Prop) (s : VS) : Then k Q .normal s = k s := (rfl)
theorem then_exit (k : VS → Prop) (Q : VExit → VS → Prop) (i : Nat) (s : VS) : Then k Q (.exit i) s = Q (.exit i) s := (rfl)
theorem then_ret (k : VS → Prop) (Q : VExit → VS → Prop) (s : VS) : Then k Q .ret s = Q .ret s := (rfl)
theorem blkd_normal (id : Nat) (Q : VExit → VS → Prop) (s : VS) : Blkd id Q .normal s = Q .normal s := (rfl)
theorem blkd_exit (id : Nat) (Q : VExit → VS → Prop) (i : Nat) (s : VS) : Blkd id Q (.exit i) s = if i = id then Q .normal s else Q (.exit i) s := (rfl)
theorem blkd_ret (id : Nat) (Q : VExit → VS → Prop) (s : VS) : Blkd id Q .ret s = Q .ret s := (rfl)

/-- The same for code without loops, by recursion. -/
def vwp (P : Program) (G : Nat → Option (List AV)) (π : Id) : VCode → (VExit → VS → Prop) → VS → Prop
  | .skip, Q, s => Q .normal s
  | .reg none vs, Q, s => vseq P G π s.n (fun t σ => Q .normal ⟨t, σ, s.n + vs.length⟩) vs 0 s.t s.σ
  | .reg (some ps) vs, Q, s => vpar P G π s.n (fun rs t σ => allApart rs ps ∧ Q .normal ⟨t, σ, s.n + vs.length⟩) vs 0 [] s.t s.σ
  | .seq x y, Q, s => vwp P G π x (Then (vwp P G π y Q) Q) s
  | .cond c x y, Q, s => match c.ev G s.t with
    | .bool b => if b then vwp P G π x Q s else vwp P G π y Q s
    | .anyb => vwp P G π x Q s ∧ vwp P G π y Q s
    | _ => False
  | .block id x, Q, s => vwp P G π x (Blkd id Q) s
  | .loop x, Q, s => VW P G π (.loop x) Q s
  | .exit id, Q, s => Q (.exit id) s
  | .ret, Q, s => Q .ret s

theorem vseq_mono {base : Nat} {K K' : List AV → Store → Prop} (hk : ∀ t σ, K t σ → K' t σ) : ∀ (os : List VOper) (i : Nat) (t : List AV) (σ : Store), vseq P G π base K os i t σ → vseq P G π base K' os i t σ
  | [], i, t, σ, h => hk t σ h
  | o :: os, i, t, σ, h => by
    simp only [vseq] at h ⊢
    split at h
    · exact h.elim
    · exact vseq_mono hk os _ _ _ h
    · unfold vstep at h ⊢
      split at h
      · split at h
        · obtain ⟨S, r, h1, h2, h3, h4⟩ := h
          exact ⟨S, r, h1, h2, h3, vseq_mono hk os _ _ _ h4⟩
        · exact h.elim
      · split at h
        · exact vseq_mono hk os _ _ _ h
        · exact h.elim

theorem VW.of : ∀ {vc : VCode} {Q : VExit → VS → Prop} {s : VS}, vwp P G π vc Q s → VW P G π vc Q s
  | .skip, _, _, h => VW.skip h
  | .reg none _, _, _, h => VW.seqReg h
  | .reg (some _) _, _, _, h => VW.parReg h
  | .seq x y, Q, s, h => by
    refine VW.seq (VW.mono (VW.of (vc := x) h) ?_)
    intro e s' hq
    cases e with
    | normal => exact VW.of (vc := y) hq
    | exit id => exact hq
    | ret => exact hq
  | .cond c x y, Q, s, h => by
    simp only [vwp] at h
    split at h
    · rename_i b hb
      refine VW.cond hb ?_
      cases b with
      | true => exact VW.of (vc := x) h
      | false => exact VW.of (vc := y) h
    · rename_i hb
      exact VW.condAny hb (VW.of (vc := x) h.1) (VW.of (vc := y) h.2)
    · exact h.elim
  | .block id x, Q, s, h => by
    refine VW.block (VW.mono (VW.of (vc := x) h) ?_)
    intro e s' hq
    cases e with
    | normal => exact hq
    | exit i => exact hq
    | ret => exact hq
  | .loop x, Q, s, h => h
  | .exit id, _, _, h => VW.exit h
  | .ret, _, _, h => VW.ret h

end

end Go.VL
