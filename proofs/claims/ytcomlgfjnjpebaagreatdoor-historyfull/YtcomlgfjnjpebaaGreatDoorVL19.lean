/- The V-layer, part 19: the same code in a form that is computed step by step, each step ahead of the next. -/
import Derived.Test.YtcomlgfjnjpebaaGreatDoorVL18
namespace Go.VL

def VOp.isCall {α : Type} : VOp α → Bool
  | .call _ _ => true
  | _ => false

/-- One operation that is no call. -/
def vexec (G : Nat → Option (List AV)) (σ : Store) (p : Id) (d : Option Nat) (op : VOp VArg) (g : Option (Nat × Bool)) (t : List AV) : Option (List AV × Res × Store) :=
  match vwanted t g with
  | none => none
  | some false => some (putT t d (.tup []), { val := .tup [] }, σ)
  | some true => match vop σ p (op.map (VArg.ev G t)) with
    | some r => some (putT t d r.val, r, σ.app r.up)
    | none => none

section
variable (P : Program) (G : Nat → Option (List AV)) (π : Id)

/-- The operations of a statement whose order is the text's. -/
def vs (base : Nat) (Q : VExit → VS → Prop) (n : Nat) (os : List VOper) (i : Nat) (t : List AV) (σ : Store) : Prop :=
  vseq P G π base (fun t σ => Q .normal ⟨t, σ, n⟩) os i t σ

/-- The operations of a statement whose order is drawn. -/
def vd (base : Nat) (Q : VExit → VS → Prop) (n : Nat) (ps : List (Nat × Nat)) (os : List VOper) (i : Nat) (acc : List Res) (t : List AV) (σ : Store) : Prop :=
  vpar P G π base (fun rs t σ => allApart rs ps ∧ Q .normal ⟨t, σ, n⟩) os i acc t σ

def vsAft (base : Nat) (Q : VExit → VS → Prop) (n : Nat) (os : List VOper) (i : Nat) : Option (List AV × Res × Store) → Prop
  | some (t, _, σ) => vs P G π base Q n os i t σ
  | none => False

def vdAft (base : Nat) (Q : VExit → VS → Prop) (n : Nat) (ps : List (Nat × Nat)) (os : List VOper) (i : Nat) (acc : List Res) : Option (List AV × Res × Store) → Prop
  | some (t, r, σ) => vd P G π base Q n ps os i (r :: acc) t σ
  | none => False

/-- A call stands next. -/
def vsCall (base : Nat) (Q : VExit → VS → Prop) (n : Nat) (d : Option Nat) (os : List VOper) (i : Nat) (t : List AV) (σ : Store) (f : FuncId) (args : List AV) : Prop :=
  ∃ S r, CallRel P G f args ((base + i) :: π) S r ∧ (∀ x ∈ S, σ x.1 = some x.2) ∧ (∀ x ∈ S, x.1 ∈ r.rd) ∧ vs P G π base Q n os (i + 1) (putT t d r.val) (σ.app r.up)

def vdCall (base : Nat) (Q : VExit → VS → Prop) (n : Nat) (ps : List (Nat × Nat)) (d : Option Nat) (os : List VOper) (i : Nat) (acc : List Res) (t : List AV) (σ : Store) (f : FuncId) (args : List AV) : Prop :=
  ∃ S r, CallRel P G f args ((base + i) :: π) S r ∧ (∀ x ∈ S, σ x.1 = some x.2) ∧ (∀ x ∈ S, x.1 ∈ r.rd) ∧ vd P G π base Q n ps os (i + 1) (r :: acc) (putT t d r.val) (σ.app r.up)

def vsAsk (base : Nat) (Q : VExit → VS → Prop) (n : Nat) (d : Option Nat) (os : List VOper) (i : Nat) (t : List AV) (σ : Store) : Option Bool → AV → List AV → Prop
  | some true, .fn (.func f) first cap, l => vsCall P G π base Q n d os i t σ f (first ++ l ++ cap)
  | some false, _, _ => vs P G π base Q n os (i + 1) (putT t d (.tup [])) σ
  | _, _, _ => False

def vdAsk (base : Nat) (Q : VExit → VS → Prop) (n : Nat) (ps : List (Nat × Nat)) (d : Option Nat) (os : List VOper) (i : Nat) (acc : List Res) (t : List AV) (σ : Store) : Option Bool → AV → List AV → Prop
  | some true, .fn (.func f) first cap, l => vdCall P G π base Q n ps d os i acc t σ f (first ++ l ++ cap)
  | some false, _, _ => vd P G π base Q n ps os (i + 1) ({ val := .tup [] } :: acc) (putT t d (.tup [])) σ
  | _, _, _ => False

variable {P} {G} {π}
variable {base : Nat} {Q : VExit → VS → Prop} {n : Nat} {ps : List (Nat × Nat)} {d : Option Nat} {g : Option (Nat × Bool)} {os : List VOper} {i : Nat} {acc : List Res} {t : List AV} {σ : Store}

theorem vs_nil : vs P G π base Q n [] i t σ = Q .normal ⟨t, σ, n⟩ := (rfl)
theorem vd_nil : vd P G π base Q n ps [] i acc t σ = (allApart acc.reverse ps ∧ Q .normal ⟨t, σ, n⟩) := (rfl)

theorem vstep_op {σ : Store} {p : Id} {op : VOp AV} {K : Res → Prop} (h : op.isCall = false) : vstep P G σ p op K = (match vop σ p op with | some r => K r | none => False) := by
  cases op <;> first | rfl | simp [VOp.isCall] at h

theorem map_isCall {op : VOp VArg} {f : VArg → AV} : (op.map f).isCall = op.isCall := by cases op <;> rfl

theorem vs_op {op : VOp VArg} (h : op.isCall = false) : vs P G π base Q n (⟨d, op, g⟩ :: os) i t σ = vsAft P G π base Q n os (i + 1) (vexec G σ ((base + i) :: π) d op g t) := by
  unfold vs
  simp only [vseq, vexec]
  cases hw : vwanted t g with
  | none => rfl
  | some b =>
    cases b with
    | false => rfl
    | true =>
      simp only []
      rw [vstep_op (by rw [map_isCall]; exact h)]
      cases vop σ ((base + i) :: π) (op.map (VArg.ev G t)) <;> rfl

theorem vd_op {op : VOp VArg} (h : op.isCall = false) : vd P G π base Q n ps (⟨d, op, g⟩ :: os) i acc t σ = vdAft P G π base Q n ps os (i + 1) acc (vexec G σ ((base + i) :: π) d op g t) := by
  unfold vd
  simp only [vpar, vexec]
  cases hw : vwanted t g with
  | none => rfl
  | some b =>
    cases b with
    | false => rfl
    | true =>
      simp only []
      rw [vstep_op (by rw [map_isCall]; exact h)]
      cases vop σ ((base + i) :: π) (op.map (VArg.ev G t)) <;> rfl

theorem vs_call {f : VArg} {l : List VArg} : vs P G π base Q n (⟨d, .call f l, g⟩ :: os) i t σ = vsAsk P G π base Q n d os i t σ (vwanted t g) (f.ev G t) (l.map (VArg.ev G t)) := by
  unfold vs vsAsk
  simp only [vseq]
  cases hw : vwanted t g with
  | none => rfl
  | some b =>
    cases b with
    | false => rfl
    | true =>
      simp only [VOp.map, vstep]
      cases hf : f.ev G t <;> try rfl
      rename_i fn a c
      cases fn <;> rfl

theorem vd_call {f : VArg} {l : List VArg} : vd P G π base Q n ps (⟨d, .call f l, g⟩ :: os) i acc t σ = vdAsk P G π base Q n ps d os i acc t σ (vwanted t g) (f.ev G t) (l.map (VArg.ev G t)) := by
  unfold vd vdAsk
  simp only [vpar]
  cases hw : vwanted t g with
  | none => rfl
  | some b =>
    cases b with
    | false => rfl
    | true =>
      simp only [VOp.map, vstep]
      cases hf : f.ev G t <;> try rfl
      rename_i fn a c
      cases fn <;> rfl

theorem vsAft_some {r : Res} : vsAft P G π base Q n os i (some (t, r, σ)) = vs P G π base Q n os i t σ := (rfl)
theorem vdAft_some {r : Res} : vdAft P G π base Q n ps os i acc (some (t, r, σ)) = vd P G π base Q n ps os i (r :: acc) t σ := (rfl)
theorem vsAsk_call {f : FuncId} {first cap l : List AV} : vsAsk P G π base Q n d os i t σ (some true) (.fn (.func f) first cap) l = vsCall P G π base Q n d os i t σ f (first ++ l ++ cap) := (rfl)
theorem vdAsk_call {f : FuncId} {first cap l : List AV} : vdAsk P G π base Q n ps d os i acc t σ (some true) (.fn (.func f) first cap) l = vdCall P G π base Q n ps d os i acc t σ f (first ++ l ++ cap) := (rfl)
theorem vsAsk_no {f : AV} {l : List AV} : vsAsk P G π base Q n d os i t σ (some false) f l = vs P G π base Q n os (i + 1) (putT t d (.tup [])) σ := by cases f <;> rfl
theorem vdAsk_no {f : AV} {l : List AV} : vdAsk P G π base Q n ps d os i acc t σ (some false) f l = vd P G π base Q n ps os (i + 1) ({ val := .tup [] } :: acc) (putT t d (.tup [])) σ := by cases f <;> rfl

/-- A call by a contract on trees that touch no store. -/
theorem vsCall_VP {f : FuncId} {args : List AV} {r : AV} (h : VP P G f args r) (hp : ∀ c ∈ args, PureAV c) (k : vs P G π base Q n os (i + 1) (putT t d r) σ) : vsCall P G π base Q n d os i t σ f args :=
  ⟨[], { val := r }, CallRel.of_VP h hp _, by simp, by simp, k⟩
theorem vdCall_VP {f : FuncId} {args : List AV} {r : AV} (h : VP P G f args r) (hp : ∀ c ∈ args, PureAV c) (k : vd P G π base Q n ps os (i + 1) ({ val := r } :: acc) (putT t d r) σ) : vdCall P G π base Q n ps d os i acc t σ f args :=
  ⟨[], { val := r }, CallRel.of_VP h hp _, by simp, by simp, k⟩

/-- A branch, its test not yet decided. -/
def vcond (P : Program) (G : Nat → Option (List AV)) (π : Id) (x y : VCode) (Q : VExit → VS → Prop) (s : VS) : AV → Prop
  | .bool b => if b then vwp P G π x Q s else vwp P G π y Q s
  | .anyb => vwp P G π x Q s ∧ vwp P G π y Q s
  | _ => False
theorem vcond_true {x y : VCode} {s : VS} : vcond P G π x y Q s (.bool true) = vwp P G π x Q s := (rfl)
theorem vcond_false {x y : VCode} {s : VS} : vcond P G π x y Q s (.bool false) = vwp P G π y Q s := (rfl)

theorem vcond_any {x y : VCode} {s : VS} : vcond P G π x y Q s .anyb = (vwp P G π x Q s ∧ vwp P G π y Q s) := (rfl)

theorem vwp_skip {s : VS} : vwp P G π .skip Q s = Q .normal s := (rfl)
theorem vwp_seqReg {os : List VOper} {n : Nat} : vwp P G π (.reg none os) Q ⟨t, σ, n⟩ = vs P G π n Q (n + os.length) os 0 t σ := (rfl)
theorem vwp_parReg {os : List VOper} {n : Nat} : vwp P G π (.reg (some ps) os) Q ⟨t, σ, n⟩ = vd P G π n Q (n + os.length) ps os 0 [] t σ := (rfl)
theorem vwp_seq {x y : VCode} {s : VS} : vwp P G π (.seq x y) Q s = vwp P G π x (Then (vwp P G π y Q) Q) s := (rfl)
theorem vwp_cond {c : VArg} {x y : VCode} {n : Nat} : vwp P G π (.cond c x y) Q ⟨t, σ, n⟩ = vcond P G π x y Q ⟨t, σ, n⟩ (c.ev G t) := by
  simp only [vwp, vcond]; cases c.ev G t <;> rfl
theorem vwp_block {id : Nat} {x : VCode} {s : VS} : vwp P G π (.block id x) Q s = vwp P G π x (Blkd id Q) s := (rfl)
theorem vwp_loop {x : VCode} {s : VS} : vwp P G π (.loop x) Q s = VW P G π (.loop x) Q s := (rfl)
theorem vwp_exit {id : Nat} {s : VS} : vwp P G π (.exit id) Q s = Q (.exit id) s := (rfl)
theorem vwp_ret {s : VS} : vwp P G π .ret Q s = Q .ret s := (rfl)

/-- A function's end. -/
def RetQ (rs : List VRes) (r : AV) (e : VExit) (s : VS) : Prop := (e = .normal ∨ e = .ret) ∧ ∃ r0, outAV rs s = some r0 ∧ View s.σ r0 r
theorem retQ_ret {rs : List VRes} {r : AV} {s : VS} : RetQ rs r .ret s = ∃ r0, outAV rs s = some r0 ∧ View s.σ r0 r := by simp [RetQ]
theorem retQ_normal {rs : List VRes} {r : AV} {s : VS} : RetQ rs r .normal s = ∃ r0, outAV rs s = some r0 ∧ View s.σ r0 r := by simp [RetQ]

/-- A loop's round. -/
def LoopQ {α : Type} (G : Nat → Option (List AV)) (π : Id) (st : α → VS) (Pr : α → Prop) (m : α → Nat) (a : α) (Q : VExit → VS → Prop) : VExit → VS → Prop
  | .normal, s' => ∃ a', Pr a' ∧ m a' < m a ∧ Wk G π s' (st a')
  | .exit i, s' => Q (.exit i) s'
  | .ret, s' => Q .ret s'
theorem loopQ_normal {α : Type} {st : α → VS} {Pr : α → Prop} {m : α → Nat} {a : α} {s' : VS} : LoopQ G π st Pr m a Q .normal s' = ∃ a', Pr a' ∧ m a' < m a ∧ Wk G π s' (st a') := (rfl)
theorem loopQ_exit {α : Type} {st : α → VS} {Pr : α → Prop} {m : α → Nat} {a : α} {s' : VS} {j : Nat} : LoopQ G π st Pr m a Q (.exit j) s' = Q (.exit j) s' := (rfl)
theorem loopQ_ret {α : Type} {st : α → VS} {Pr : α → Prop} {m : α → Nat} {a : α} {s' : VS} : LoopQ G π st Pr m a Q .ret s' = Q .ret s' := (rfl)

theorem VW.loopQ {α : Type} {x : VCode} {s : VS} (st : α → VS) (Pr : α → Prop) (m : α → Nat) (x0 : α) (hw : Wk G π s (st x0)) (h0 : Pr x0)
    (h : ∀ a, Pr a → vwp P G π x (LoopQ G π st Pr m a Q) (st a)) : VW P G π (.loop x) Q s := by
  refine VW.wk hw ?_
  intro c hc own E w a R hm hR
  cases c <;> simp only [cCode, Option.some.injEq, reduceCtorEq] at hc
  case loop cb =>
    cases h1 : cCode P cb with
    | none => simp [h1] at hc
    | some vb =>
      simp only [h1, Option.map_some, Option.some.injEq, VCode.loop.injEq] at hc
      subst hc
      refine wp_loop_rel (α := α) (fun g a' w' => Pr g ∧ ∃ E', AdvP own π E E' w w' ∧ Matched G π own E' w' (st g) a') m (x := x0) ⟨h0, E, AdvP.refl own π E w, hm⟩ ?_
      rintro g a2 w2 ⟨hI2, E2, ad2, hm2⟩
      refine VW.of (h g hI2) cb h1 own E2 w2 a2 _ hm2 ?_
      intro e s' E' w' a' hq had hm'
      cases e with
      | normal =>
        obtain ⟨g', hI3, hlt, hw3⟩ := hq
        obtain ⟨E3, ad3, hm3⟩ := hw3 own E' w' a' hm'
        exact ⟨g', ⟨hI3, E3, (ad2.trans had).trans ad3, hm3⟩, hlt⟩
      | exit id => exact hR (.exit id) s' E' w' a' hq (ad2.trans had) hm'
      | ret => exact hR .ret s' E' w' a' hq (ad2.trans had) hm'
  case region => exfalso; revert hc; unfold cRegion; (repeat' split) <;> simp
  all_goals (exfalso; revert hc; (repeat' split) <;> simp)

theorem VP.of {f : FuncId} {fn : Func} {vf : VFunc} (hf : P.funcs[f]? = some fn) (hc : cFunc P fn = some vf) {args : List AV} {r : AV}
    (h : vwp P G [] vf.body (RetQ vf.results r) ⟨args ++ List.replicate (vf.nt - args.length) (.tup []), fun _ => none, 0⟩) : VP P G f args r :=
  VP.of_vw hf hc (VW.of h)

end

/-- Facts that a tree's values bear: a slice is no longer than memory. -/
theorem rep_sl_len {E : Env} {w : World} {k : Nat} {es : List AV} {v : Value} (h : Rep E w (.sl k es) v) : es.length ≤ maxLen := by
  simp only [Rep] at h; obtain ⟨a, cap, _, h1, h2, _⟩ := h; omega

end Go.VL
