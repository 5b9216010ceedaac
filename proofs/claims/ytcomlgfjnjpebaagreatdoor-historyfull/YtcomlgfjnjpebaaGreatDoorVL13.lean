/- The V-layer, part 13: a statement's operations in an order that is drawn. -/
import Derived.Test.YtcomlgfjnjpebaaGreatDoorVL12
import Derived.Orders
namespace Go.VL

/-! ### Folding the results of some of the operations -/

abbrev Done := Option Nat × Res

def foldT (X : Nat → Bool) : List Done → Nat → List AV → List AV
  | [], _, t => t
  | (d, r) :: L, i, t => foldT X L (i + 1) (if X i then putT t d r.val else t)

def foldS (X : Nat → Bool) : List Done → Nat → Store → Store
  | [], _, σ => σ
  | (_, r) :: L, i, σ => foldS X L (i + 1) (if X i then σ.app r.up else σ)

theorem putT_get (t : List AV) (d : Option Nat) (v : AV) (s : Nat) : (putT t d v)[s]? = if d = some s then (if s < t.length then some v else none) else t[s]? := by
  cases d with
  | none => simp [putT]
  | some d =>
    simp only [putT, List.getElem?_set, Option.some.injEq]
    by_cases e : d = s
    · subst e; simp
    · simp [e]

theorem putT_len (t : List AV) (d : Option Nat) (v : AV) : (putT t d v).length = t.length := by cases d <;> simp [putT]

theorem foldT_len (X : Nat → Bool) : ∀ (L : List Done) (i : Nat) (t : List AV), (foldT X L i t).length = t.length
  | [], _, _ => rfl
  | (d, r) :: L, i, t => by
    simp only [foldT]; rw [foldT_len X L]
    split
    · exact putT_len t d r.val
    · rfl

theorem lt_of_get {t t' : List AV} {s : Nat} (h : t[s]? = t'[s]?) : (s < t.length) = (s < t'.length) := by
  have h1 : s < t.length ↔ t[s]? ≠ none := by simp
  have h2 : s < t'.length ↔ t'[s]? ≠ none := by simp
  exact propext (h1.trans ((by rw [h] : t[s]? ≠ none ↔ t'[s]? ≠ none).trans h2.symm))

theorem foldT_congr {X Y : Nat → Bool} {s : Nat} : ∀ (L : List Done) (i : Nat) (t t' : List AV), t[s]? = t'[s]? → (∀ k d r, L[k]? = some (d, r) → X (i + k) ≠ Y (i + k) → d ≠ some s) → (foldT X L i t)[s]? = (foldT Y L i t')[s]?
  | [], _, _, _, h, _ => h
  | (d, r) :: L, i, t, t', h, hd => by
    simp only [foldT]
    refine foldT_congr L (i + 1) _ _ ?_ (fun k d' r' hk hne => hd (k + 1) d' r' (by simpa using hk) (by rwa [show i + (k + 1) = i + 1 + k from by omega]))
    by_cases hx : X i = Y i
    · rw [hx]
      split
      · rw [putT_get, putT_get]; simp only [lt_of_get h, h]
      · exact h
    · have := hd 0 d r rfl hx
      have e1 : (putT t d r.val)[s]? = t[s]? := by rw [putT_get, if_neg this]
      have e2 : (putT t' d r.val)[s]? = t'[s]? := by rw [putT_get, if_neg this]
      split <;> split <;> simp only [e1, e2, h]

theorem Store.app_congr {σ σ' : Store} {id : Id} (h : σ id = σ' id) : ∀ (up : List (Id × Option Blk)), (σ.app up) id = (σ'.app up) id := by
  intro up
  induction up generalizing σ σ' with
  | nil => exact h
  | cons x up ih =>
    obtain ⟨i, b⟩ := x
    simp only [Store.app]
    refine ih ?_
    simp only [Store.put]
    split <;> first | rfl | exact h

theorem Store.app_other {σ : Store} {id : Id} : ∀ {up : List (Id × Option Blk)}, id ∉ up.map (·.1) → (σ.app up) id = σ id := by
  intro up
  induction up generalizing σ with
  | nil => intro _; rfl
  | cons x up ih =>
    obtain ⟨i, b⟩ := x
    intro h
    simp only [List.map_cons, List.mem_cons, not_or] at h
    simp only [Store.app]
    rw [ih h.2, Store.put_other _ _ _ h.1]

theorem Store.app_in {σ σ' : Store} {id : Id} : ∀ {up : List (Id × Option Blk)}, id ∈ up.map (·.1) → (σ.app up) id = (σ'.app up) id := by
  intro up
  induction up generalizing σ σ' with
  | nil => intro h; simp at h
  | cons x up ih =>
    obtain ⟨i, b⟩ := x
    intro h
    simp only [Store.app]
    by_cases hin : id ∈ up.map (·.1)
    · exact ih hin
    · have he : id = i := by simpa [hin] using h
      subst he
      rw [Store.app_other hin, Store.app_other hin, Store.put_same, Store.put_same]

theorem foldS_congr {X Y : Nat → Bool} {id : Id} : ∀ (L : List Done) (i : Nat) (σ σ' : Store), σ id = σ' id → (∀ k d r, L[k]? = some (d, r) → X (i + k) ≠ Y (i + k) → id ∉ r.up.map (·.1)) → foldS X L i σ id = foldS Y L i σ' id
  | [], _, _, _, h, _ => h
  | (d, r) :: L, i, σ, σ', h, hd => by
    simp only [foldS]
    refine foldS_congr L (i + 1) _ _ ?_ (fun k d' r' hk hne => hd (k + 1) d' r' (by simpa using hk) (by rwa [show i + (k + 1) = i + 1 + k from by omega]))
    by_cases hx : X i = Y i
    · rw [hx]
      split
      · exact Store.app_congr h _
      · exact h
    · have := hd 0 d r rfl hx
      split <;> split <;> simp only [Store.app_other this, h]

/-- The last operation that writes a slot settles it. -/
theorem foldT_last {X : Nat → Bool} {s : Nat} {r : Res} : ∀ (L : List Done) (i j : Nat) (t : List AV), L[j]? = some (some s, r) → X (i + j) = true → (∀ k d r', L[k]? = some (d, r') → j < k → X (i + k) = true → d ≠ some s) →
    (foldT X L i t)[s]? = if s < t.length then some r.val else none
  | [], _, _, _, h, _, _ => by simp at h
  | (d, r') :: L, i, 0, t, h, hx, hd => by
    simp only [List.getElem?_cons_zero, Option.some.injEq, Prod.mk.injEq] at h
    obtain ⟨rfl, rfl⟩ := h
    simp only [foldT]
    rw [Nat.add_zero] at hx
    rw [if_pos hx]
    have := foldT_congr (X := X) (Y := fun _ => false) (s := s) L (i + 1) (putT t (some s) r'.val) (putT t (some s) r'.val) rfl (fun k d r2 hk hne => hd (k + 1) d r2 (by simpa using hk) (by omega) (by
      rw [show i + (k + 1) = i + 1 + k from by omega]
      cases hh : X (i + 1 + k) with
      | true => rfl
      | false => simp [hh] at hne))
    rw [this]
    have none : ∀ (L : List Done) (i : Nat) (t : List AV), foldT (fun _ => false) L i t = t := by
      intro L
      induction L with
      | nil => intro _ _; rfl
      | cons x L ih => intro i t; obtain ⟨d, r⟩ := x; simp only [foldT]; rw [ih]; simp
    rw [none, putT_get, if_pos rfl]
  | (d, r') :: L, i, j + 1, t, h, hx, hd => by
    simp only [foldT]
    have := foldT_last L (i + 1) j (if X i then putT t d r'.val else t) (by simpa using h) (by rwa [show i + 1 + j = i + (j + 1) from by omega])
      (fun k d r2 hk hlt hxk => hd (k + 1) d r2 (by simpa using hk) (by omega) (by rwa [show i + (k + 1) = i + 1 + k from by omega]))
    rw [this]
    split <;> simp [putT_len]

theorem foldS_last {X : Nat → Bool} {id : Id} {d : Option Nat} {r : Res} {σ' : Store} : ∀ (L : List Done) (i j : Nat) (σ : Store), L[j]? = some (d, r) → X (i + j) = true → id ∈ r.up.map (·.1) →
    (∀ k d r', L[k]? = some (d, r') → j < k → X (i + k) = true → id ∉ r'.up.map (·.1)) → foldS X L i σ id = (σ'.app r.up) id
  | [], _, _, _, h, _, _, _ => by simp at h
  | (d', r') :: L, i, 0, σ, h, hx, hin, hd => by
    simp only [List.getElem?_cons_zero, Option.some.injEq, Prod.mk.injEq] at h
    obtain ⟨rfl, rfl⟩ := h
    simp only [foldS]
    rw [Nat.add_zero] at hx
    rw [if_pos hx]
    have := foldS_congr (X := X) (Y := fun _ => false) (id := id) L (i + 1) (σ.app r'.up) (σ.app r'.up) rfl (fun k d r2 hk hne => hd (k + 1) d r2 (by simpa using hk) (by omega) (by
      rw [show i + (k + 1) = i + 1 + k from by omega]
      cases hh : X (i + 1 + k) with
      | true => rfl
      | false => simp [hh] at hne))
    rw [this]
    have none : ∀ (L : List Done) (i : Nat) (σ : Store), foldS (fun _ => false) L i σ = σ := by
      intro L
      induction L with
      | nil => intro _ _; rfl
      | cons x L ih => intro i t; obtain ⟨d, r⟩ := x; simp only [foldS]; rw [ih]; simp
    rw [none]
    exact Store.app_in hin
  | (d', r') :: L, i, j + 1, σ, h, hx, hin, hd => by
    simp only [foldS]
    exact foldS_last L (i + 1) j _ (by simpa using h) (by rwa [show i + 1 + j = i + (j + 1) from by omega]) hin
      (fun k d r2 hk hlt hxk => hd (k + 1) d r2 (by simpa using hk) (by omega) (by rwa [show i + (k + 1) = i + 1 + k from by omega]))

theorem foldT_of_none {X : Nat → Bool} : ∀ (L : List Done) (i : Nat) (t : List AV), (∀ k, k < L.length → X (i + k) = false) → foldT X L i t = t
  | [], _, _, _ => rfl
  | (d, r) :: L, i, t, h => by
    simp only [foldT]
    have := h 0 (by simp)
    rw [Nat.add_zero] at this
    rw [this]
    exact foldT_of_none L (i + 1) t (fun k hk => by rw [show i + 1 + k = i + (k + 1) from by omega]; exact h (k + 1) (by simpa using hk))

theorem foldS_of_none {X : Nat → Bool} : ∀ (L : List Done) (i : Nat) (σ : Store), (∀ k, k < L.length → X (i + k) = false) → foldS X L i σ = σ
  | [], _, _, _ => rfl
  | (d, r) :: L, i, t, h => by
    simp only [foldS]
    have := h 0 (by simp)
    rw [Nat.add_zero] at this
    rw [this]
    exact foldS_of_none L (i + 1) t (fun k hk => by rw [show i + 1 + k = i + (k + 1) from by omega]; exact h (k + 1) (by simpa using hk))

/-! ### The operations in the order of the text -/

section
variable (P : Program) (G : Nat → Option (List AV)) (π : Id)

def vstep (σ : Store) (p : Id) (op : VOp AV) (K : Res → Prop) : Prop :=
  match op with
  | .call f as => match f with
    | .fn (.func f) first cap => ∃ S r, CallRel P G f (first ++ as ++ cap) p S r ∧ (∀ x ∈ S, σ x.1 = some x.2) ∧ (∀ x ∈ S, x.1 ∈ r.rd) ∧ K r
    | _ => False
  | op => match vop σ p op with
    | some r => K r
    | none => False

/-- The operations one after the other. -/
def vseq (base : Nat) (K : List AV → Store → Prop) : List VOper → Nat → List AV → Store → Prop
  | [], _, t, σ => K t σ
  | o :: os, i, t, σ => match vwanted t o.guard with
    | none => False
    | some false => vseq base K os (i + 1) (putT t o.dst (.tup [])) σ
    | some true => vstep P G σ ((base + i) :: π) (o.op.map (VArg.ev G t)) fun r => vseq base K os (i + 1) (putT t o.dst r.val) (σ.app r.up)

/-- The same, and what each operation came to. -/
def vpar (base : Nat) (K : List Res → List AV → Store → Prop) : List VOper → Nat → List Res → List AV → Store → Prop
  | [], _, acc, t, σ => K acc.reverse t σ
  | o :: os, i, acc, t, σ => match vwanted t o.guard with
    | none => False
    | some false => vpar base K os (i + 1) ({ val := .tup [] } :: acc) (putT t o.dst (.tup [])) σ
    | some true => vstep P G σ ((base + i) :: π) (o.op.map (VArg.ev G t)) fun r => vpar base K os (i + 1) (r :: acc) (putT t o.dst r.val) (σ.app r.up)

/-- Two operations that no order binds do not touch one block, where one of them writes it. -/
def apart (a b : Res) : Prop := (∀ x ∈ a.up, x.1 ∉ b.rd ∧ x.1 ∉ b.up.map (·.1)) ∧ ∀ x ∈ b.up, x.1 ∉ a.rd

def allApart (rs : List Res) (ps : List (Nat × Nat)) : Prop := ∀ q ∈ ps, ∀ a b, rs[q.1]? = some a → rs[q.2]? = some b → apart a b

def stepCond (base : Nat) (o : VOper) (k : Nat) (t : List AV) (σ : Store) (r : Res) : Prop :=
  (vwanted t o.guard = some false ∧ r = { val := .tup [] }) ∨ (vwanted t o.guard = some true ∧ stepRel P G σ ((base + k) :: π) (o.op.map (VArg.ev G t)) r)
end

section
variable {P : Program} {G : Nat → Option (List AV)} {π : Id} {own : Nat → Prop} {E : Env} {w : World} {σ : Store}

theorem vstep_spec {σ : Store} {p : Id} {op : VOp AV} {K : Res → Prop} (h : vstep P G σ p op K) : ∃ r, stepRel P G σ p op r ∧ K r := by
  unfold vstep at h
  cases op with
  | call f as =>
    simp only [] at h
    split at h
    · obtain ⟨S, r, h1, h2, h3, h4⟩ := h
      exact ⟨r, ⟨S, h1, h2, h3⟩, h4⟩
    · exact h.elim
  | _ =>
    simp only [] at h
    split at h
    · rename_i r hr; exact ⟨r, hr, h⟩
    · exact h.elim

/-- What each operation came to, and from where. -/
theorem vpar_spec {base : Nat} {K : List Res → List AV → Store → Prop} : ∀ {os : List VOper} {i : Nat} {acc : List Res} {t : List AV} {σ : Store}, vpar P G π base K os i acc t σ →
    ∃ rs : List Res, rs.length = os.length ∧
      (∀ k o r, os[k]? = some o → rs[k]? = some r → stepCond P G π base o (i + k) (foldT (fun m => m < i + k) ((os.map (·.dst)).zip rs) i t) (foldS (fun m => m < i + k) ((os.map (·.dst)).zip rs) i σ) r) ∧
      K (acc.reverse ++ rs) (foldT (fun _ => true) ((os.map (·.dst)).zip rs) i t) (foldS (fun _ => true) ((os.map (·.dst)).zip rs) i σ)
  | [], i, acc, t, σ, h => ⟨[], rfl, by simp, by simpa [vpar, foldT, foldS] using h⟩
  | o :: os, i, acc, t, σ, h => by
    have go : ∀ r, stepCond P G π base o i t σ r → vpar P G π base K os (i + 1) (r :: acc) (putT t o.dst r.val) (σ.app r.up) →
        ∃ rs : List Res, rs.length = (o :: os).length ∧
          (∀ k o' r, (o :: os)[k]? = some o' → rs[k]? = some r → stepCond P G π base o' (i + k) (foldT (fun m => m < i + k) (((o :: os).map (·.dst)).zip rs) i t) (foldS (fun m => m < i + k) (((o :: os).map (·.dst)).zip rs) i σ) r) ∧
          K (acc.reverse ++ rs) (foldT (fun _ => true) (((o :: os).map (·.dst)).zip rs) i t) (foldS (fun _ => true) (((o :: os).map (·.dst)).zip rs) i σ) := by
      intro r hr hv
      obtain ⟨rs, h1, h2, h3⟩ := vpar_spec hv
      refine ⟨r :: rs, by simp [h1], ?_, ?_⟩
      · intro k o' r' ho hr'
        cases k with
        | zero =>
          simp only [List.getElem?_cons_zero, Option.some.injEq] at ho hr'
          subst ho; subst hr'
          rw [foldT_of_none _ _ _ (fun k _ => by simp), foldS_of_none _ _ _ (fun k _ => by simp), Nat.add_zero]
          exact hr
        | succ k =>
          have := h2 k o' r' (by simpa using ho) (by simpa using hr')
          simp only [List.map_cons, List.zip_cons_cons, foldT, foldS]
          have hd : decide (i < i + (k + 1)) = true := by simp
          rw [if_pos hd, if_pos hd]
          rw [show i + (k + 1) = i + 1 + k from by omega]
          exact this
      · simpa [foldT, foldS] using h3
    simp only [vpar] at h
    split at h
    · exact h.elim
    · rename_i hw
      exact go { val := .tup [] } (.inl ⟨hw, rfl⟩) h
    · rename_i hw
      obtain ⟨r, hr, hk⟩ := vstep_spec h
      exact go r (.inr ⟨hw, hr⟩) hk

/-! ### One after the other -/

theorem under_ne {q q' : Nat} {π j : Id} (h : (q :: π) <:+ j) (hne : q ≠ q') : ¬ (q' :: π) <:+ j := by
  intro h'
  have := List.suffix_of_suffix_length_le h h' (by simp)
  obtain ⟨l, hl⟩ := this
  have hl0 : l = [] := by
    have := congrArg List.length hl
    simp at this; exact this
  subst hl0
  simp at hl
  exact hne hl


theorem OpPost.frame {p : Id} {r : Res} {v : Value} {E' : Env} {w' : World} (h : OpPost G own E w σ p r v E' w') {t : List AV} {a : Act} (hf : FrameRep E w t a) (d : Option Nat) : FrameRep E' w' (putT t d r.val) (a.put d v) :=
  (hf.keep h.adv.step).put h.rep d

theorem undef_rep {t : List AV} {a : Act} (hf : FrameRep E w t a) (d : Option Nat) : FrameRep E w (putT t d (.tup [])) (a.put d undef) :=
  hf.put (by simp only [Rep, undef]; exact ⟨#[], rfl, by simp [RepL]⟩) d

theorem put_defers' (a : Act) (d : Option Nat) (v : Value) : (a.put d v).defers = a.defers := by cases d <;> rfl

/-- No block is named below π, but for those of the operations before the n-th. -/
def Free (E : Env) (π : Id) (n : Nat) : Prop := ∀ j, π <:+ j → (∀ q, q < n → ¬ (q :: π) <:+ j) → E.μ j = none
theorem Free.at {π : Id} {n q : Nat} (h : Free E π n) (hq : n ≤ q) {j : Id} (hj : (q :: π) <:+ j) : E.μ j = none :=
  h j ((List.suffix_cons q π).trans hj) fun q' hq' => under_ne hj (by omega)
theorem Free.mono {π : Id} {n n' : Nat} (h : Free E π n) (hn : n ≤ n') : Free E π n' := fun j hj hq => h j hj fun q hq' => hq q (by omega)
theorem Free.step {π : Id} {n : Nat} {E' : Env} (h : Free E π n) (hids : ∀ i : Id, ¬ (n :: π) <:+ i → E'.μ i = E.μ i) : Free E' π (n + 1) := fun j hj hq => by
  rw [hids j (hq n (by omega))]; exact h j hj fun q hq' => hq q (by omega)
theorem Free.self {π : Id} {n : Nat} (h : Free E π n) : E.μ π = none :=
  h π (List.suffix_refl _) fun q _ hs => by have := hs.length_le; simp at this; omega

/-- The same as Adv, and no block has been named but below π. -/
structure AdvP (own : Nat → Prop) (π : Id) (E E' : Env) (w w' : World) : Prop extends Adv own E E' w w' where
  ids : ∀ i : Id, ¬ π <:+ i → E'.μ i = E.μ i
theorem AdvP.refl (own : Nat → Prop) (π : Id) (E : Env) (w : World) : AdvP own π E E w w := ⟨Adv.refl own E w, fun _ _ => rfl⟩
theorem AdvP.trans {π : Id} {E' E'' : Env} {w' w'' : World} (a : AdvP own π E E' w w') (b : AdvP own π E' E'' w' w'') : AdvP own π E E'' w w'' :=
  ⟨a.toAdv.trans b.toAdv, fun i hi => (b.ids i hi).trans (a.ids i hi)⟩
theorem OpPost.advP {π : Id} {q : Nat} {r : Res} {v : Value} {E' : Env} {w' : World} (h : OpPost G own E w σ (q :: π) r v E' w') : AdvP own π E E' w w' :=
  ⟨h.adv, fun i hi => h.ids i fun hs => hi ((List.suffix_cons q π).trans hs)⟩

theorem vseq_sound {ops : Array Oper} {base : Nat} {K : List AV → Store → Prop} {Q : Exit → Act → World → Prop} :
    ∀ (l : List Oper) (i : Nat), (∀ k, l[k]? = ops[i + k]?) → ∀ (vs : List VOper), l.mapM (cOper P ops) = some vs → ∀ (t : List AV) (σ : Store) (a : Act) (E : Env) (w : World), vseq P G π base K vs i t σ →
    FrameRep E w t a → Inv G own E w σ → Free E π (base + i) →
    (∀ t' σ' a' E' w', K t' σ' → AdvP own π E E' w w' → FrameRep E' w' t' a' → Inv G own E' w' σ' → Free E' π (base + i + l.length) → a'.defers = a.defers → Q .normal a' w') →
    wpOps P ops Q ((List.range' i l.length)) a w
  | [], i, _, vs, hm, t, σ, a, E, w, hv, hf, hi, hfree, hQ => by
    simp at hm; subst hm
    simp only [vseq] at hv
    simp only [List.length_nil, List.range'_zero, wpOps]
    exact hQ t σ a E w hv (AdvP.refl own π E w) hf hi hfree rfl
  | o :: l, i, hl, vs, hm, t, σ, a, E, w, hv, hf, hi, hfree, hQ => by
    simp only [List.mapM_cons, Option.pure_def, Option.bind_eq_bind, Option.bind_eq_some_iff] at hm
    obtain ⟨vo, hvo, vs', hvs, he⟩ := hm
    simp only [Option.some.injEq] at he; subst he
    obtain ⟨hop, hdst⟩ := cOper_op hvo
    have hoi : ops[i]? = some o := by have := hl 0; simpa using this.symm
    simp only [List.length_cons, List.range'_succ]
    rw [wpOps_cons]
    unfold wpOp
    rw [hoi]
    simp only []
    have rest : ∀ (t' : List AV) (σ' : Store) (a' : Act) (E' : Env) (w' : World), vseq P G π base K vs' (i + 1) t' σ' → AdvP own π E E' w w' → FrameRep E' w' t' a' → Inv G own E' w' σ' → Free E' π (base + i + 1) → a'.defers = a.defers →
        wpOps P ops Q (List.range' (i + 1) l.length) a' w' := by
      intro t' σ' a' E' w' hv' had hf' hi' hfree' hde
      refine vseq_sound l (i + 1) (fun k => by rw [show i + 1 + k = i + (k + 1) from by omega, ← hl]; simp) vs' hvs t' σ' a' E' w' hv' hf' hi' (by rw [← Nat.add_assoc]; exact hfree') ?_
      intro t2 σ2 a2 E2 w2 hk had2 hf2 hi2 hfree2 hd2
      exact hQ t2 σ2 a2 E2 w2 hk (had.trans had2) hf2 hi2 (by rw [List.length_cons, show base + i + (l.length + 1) = base + (i + 1) + l.length from by omega]; exact hfree2) (hd2.trans hde)
    simp only [vseq] at hv
    split at hv
    · exact hv.elim
    · rename_i hw
      rw [wanted_iff hvo hf hw]
      simp only [Bool.false_eq_true, if_false]
      rw [← hdst]
      exact rest _ _ _ E w hv (AdvP.refl own π E w) (undef_rep hf _) hi (hfree.mono (by omega)) (put_defers' _ _ _)
    · rename_i hw
      rw [wanted_iff hvo hf hw]
      simp only [if_true]
      obtain ⟨r, hr, hk⟩ := vstep_spec hv
      left
      refine step_sound hi (fun j hj => hfree.at (Nat.le_refl _) hj) hf hop hr ?_
      intro v w' E' hp
      rw [← hdst]
      exact rest _ _ _ E' w' hk hp.advP (hp.frame hf _) hp.inv (hfree.step hp.ids) (put_defers' _ _ _)

end

end Go.VL
