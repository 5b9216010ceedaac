/- The V-layer, part 17: from code to contracts. -/
import Derived.Test.YtcomlgfjnjpebaaGreatDoorVL16
namespace Go.VL

section
variable {P : Program} {G : Nat → Option (List AV)} {own : Nat → Prop} {E : Env} {w : World} {σ : Store}

/-! ### Trees that touch no block of the store -/

def PureAV (c : AV) : Prop := ∀ E w v, Rep E w c v → Rep E.bare w c v

theorem PureAV.bool (b : Bool) : PureAV (.bool b) := fun _ _ _ h => by simpa [Rep] using h
theorem PureAV.int (k : IntKind) (n : Int) : PureAV (.int k n) := fun _ _ _ h => by simpa [Rep] using h
theorem PureAV.str (l : List UInt8) : PureAV (.str l) := fun _ _ _ h => by simpa [Rep] using h
theorem PureAV.nilp : PureAV .nilp := fun _ _ _ h => by simpa [Rep] using h
theorem PureAV.nilf : PureAV .nilf := fun _ _ _ h => by simpa [Rep] using h
theorem PureAV.nils : PureAV .nils := fun _ _ _ h => by simpa [Rep] using h

theorem PureAV.repL {cs : List AV} (h : ∀ c ∈ cs, PureAV c) : ∀ {vs : List Value}, RepL E w cs vs → RepL E.bare w cs vs := by
  induction cs with
  | nil => intro vs hr; simpa [RepL] using hr
  | cons c cs ih =>
    intro vs hr
    simp only [RepL] at hr ⊢
    obtain ⟨v, rest, e, h1, h2⟩ := hr
    exact ⟨v, rest, e, h c (by simp) _ _ _ h1, ih (fun x hx => h x (by simp [hx])) h2⟩

theorem PureAV.repAt {cs : List AV} (h : ∀ c ∈ cs, PureAV c) {b o : Nat} (hr : RepAt E w b o cs) : RepAt E.bare w b o cs :=
  fun j c hj => let ⟨v, hv, hrv⟩ := hr j c hj; ⟨v, hv, h c (List.mem_of_getElem? hj) _ _ _ hrv⟩

theorem PureAV.agg {cs : List AV} (h : ∀ c ∈ cs, PureAV c) : PureAV (.agg cs) := fun E w v hr => by
  simp only [Rep] at hr ⊢; obtain ⟨xs, e, hr⟩ := hr; exact ⟨xs, e, PureAV.repL h hr⟩
theorem PureAV.tup {cs : List AV} (h : ∀ c ∈ cs, PureAV c) : PureAV (.tup cs) := fun E w v hr => by
  simp only [Rep] at hr ⊢; obtain ⟨xs, e, hr⟩ := hr; exact ⟨xs, e, PureAV.repL h hr⟩
theorem PureAV.fn {f : Fn} {a c : List AV} (ha : ∀ x ∈ a, PureAV x) (hc : ∀ x ∈ c, PureAV x) : PureAV (.fn f a c) := fun E w v hr => by
  simp only [Rep] at hr ⊢; obtain ⟨xs, ys, e, h1, h2⟩ := hr; exact ⟨xs, ys, e, PureAV.repL ha h1, PureAV.repL hc h2⟩
theorem PureAV.sl {k : Nat} {es : List AV} (h : ∀ c ∈ flat es, PureAV c) : PureAV (.sl k es) := fun E w v hr => by
  simp only [Rep] at hr ⊢
  obtain ⟨a, cap, e, h1, h2, h3, h4⟩ := hr
  exact ⟨a, cap, e, h1, h2, h3, h4.imp id fun ⟨b, o, ea, hb, hr⟩ => ⟨b, o, ea, hb, repRow_iff.2 (PureAV.repAt h (repRow_iff.1 hr))⟩⟩
theorem PureAV.tsl {k : Nat} {es : List AV} (h : ∀ c ∈ flat es, PureAV c) : PureAV (.tsl k es) := fun E w v hr => by
  simp only [Rep] at hr ⊢
  obtain ⟨a, e, h2, h3, h4⟩ := hr
  exact ⟨a, e, h2, h3, h4.imp id fun ⟨b, o, ea, hb, hr⟩ => ⟨b, o, ea, hb, repRow_iff.2 (PureAV.repAt h (repRow_iff.1 hr))⟩⟩
theorem PureAV.ep {cs : List AV} {o : Nat} (h : ∀ c ∈ cs, PureAV c) : PureAV (.ep cs o) := fun E w v hr => by
  simp only [Rep] at hr ⊢
  obtain ⟨b, q, e, hb, hr⟩ := hr
  exact ⟨b, q, e, hb, repCells_iff.2 (PureAV.repAt h (repCells_iff.1 hr))⟩

/-- Trees that lead to no memory. -/
def FlatAV (c : AV) : Prop := ∀ E w E' w' v, Rep E w c v → Rep E' w' c v
theorem FlatAV.bool (b : Bool) : FlatAV (.bool b) := fun _ _ _ _ _ h => by simpa [Rep] using h
theorem FlatAV.int (k : IntKind) (n : Int) : FlatAV (.int k n) := fun _ _ _ _ _ h => by simpa [Rep] using h
theorem FlatAV.str (l : List UInt8) : FlatAV (.str l) := fun _ _ _ _ _ h => by simpa [Rep] using h
theorem FlatAV.repL {cs : List AV} (h : ∀ c ∈ cs, FlatAV c) {E E' : Env} {w w' : World} : ∀ {vs : List Value}, RepL E w cs vs → RepL E' w' cs vs := by
  induction cs with
  | nil => intro vs hr; simpa [RepL] using hr
  | cons c cs ih =>
    intro vs hr
    simp only [RepL] at hr ⊢
    obtain ⟨v, rest, e, h1, h2⟩ := hr
    exact ⟨v, rest, e, h c (by simp) _ _ _ _ _ h1, ih (fun x hx => h x (by simp [hx])) h2⟩
theorem FlatAV.tup {cs : List AV} (h : ∀ c ∈ cs, FlatAV c) : FlatAV (.tup cs) := fun _ _ _ _ _ hr => by
  simp only [Rep] at hr ⊢; obtain ⟨xs, e, hr⟩ := hr; exact ⟨xs, e, FlatAV.repL h hr⟩
theorem FlatAV.agg {cs : List AV} (h : ∀ c ∈ cs, FlatAV c) : FlatAV (.agg cs) := fun _ _ _ _ _ hr => by
  simp only [Rep] at hr ⊢; obtain ⟨xs, e, hr⟩ := hr; exact ⟨xs, e, FlatAV.repL h hr⟩

/-! ### What a tree reads as when nobody writes the store any more -/

def Env.froze (E : Env) (σ : Store) : Env := ⟨fun _ => none, fun b => E.ok b ∨ ∃ id bk k N, σ id = some bk ∧ E.μ id = some (b, k, N)⟩

def View (σ : Store) (c d : AV) : Prop := ∀ G own E w v, Inv G own E w σ → Rep E w c v → Rep (E.froze σ) w d v
def ViewL (σ : Store) (cs ds : List AV) : Prop := cs.length = ds.length ∧ ∀ (j : Nat) (c d : AV), cs[j]? = some c → ds[j]? = some d → View σ c d

theorem Step.froze (E : Env) (σ : Store) (w : World) : Step E.bare (E.froze σ) w w := ⟨fun _ _ h => by simp [Env.bare] at h, fun _ h => .inl h, fun _ _ => rfl⟩

theorem View.pure {c : AV} (h : PureAV c) : View σ c c := fun _ _ E w v _ hr => Rep.keep (Step.froze E σ w) c v (h E w v hr)

theorem ViewL.pure {cs : List AV} (h : ∀ c ∈ cs, PureAV c) : ViewL σ cs cs :=
  ⟨rfl, fun j c d hc hd => by rw [hc] at hd; simp only [Option.some.injEq] at hd; subst hd; exact View.pure (h c (List.mem_of_getElem? hc))⟩

theorem ViewL.nil : ViewL σ [] [] := ⟨rfl, by simp⟩
theorem ViewL.cons {c d : AV} {cs ds : List AV} (h : View σ c d) (hl : ViewL σ cs ds) : ViewL σ (c :: cs) (d :: ds) :=
  ⟨by simp [hl.1], fun j x y hx hy => by
    cases j with
    | zero => simp at hx hy; subst hx; subst hy; exact h
    | succ j => exact hl.2 j x y (by simpa using hx) (by simpa using hy)⟩

theorem ViewL.repL {cs ds : List AV} (h : ViewL σ cs ds) (hi : Inv G own E w σ) {vs : List Value} (hr : RepL E w cs vs) : RepL (E.froze σ) w ds vs := by
  obtain ⟨hl, hp⟩ := repL_iff.1 hr
  refine repL_iff.2 ⟨by rw [hl, h.1], fun j d hd => ?_⟩
  have hj : j < cs.length := by rw [h.1]; exact (List.getElem?_eq_some_iff.1 hd).1
  obtain ⟨v, hv, hrv⟩ := hp j cs[j] (by simp [hj])
  exact ⟨v, hv, h.2 j _ d (by simp [hj]) hd G own E w v hi hrv⟩

theorem ViewL.repAt {cs ds : List AV} (h : ViewL σ cs ds) (hi : Inv G own E w σ) {b o : Nat} (hr : RepAt E w b o cs) : RepAt (E.froze σ) w b o ds := by
  intro j d hd
  have hj : j < cs.length := by rw [h.1]; exact (List.getElem?_eq_some_iff.1 hd).1
  obtain ⟨v, hv, hrv⟩ := hr j cs[j] (by simp [hj])
  exact ⟨v, hv, h.2 j _ d (by simp [hj]) hd G own E w v hi hrv⟩

theorem View.agg {cs ds : List AV} (h : ViewL σ cs ds) : View σ (.agg cs) (.agg ds) := fun G own E w v hi hr => by
  simp only [Rep] at hr ⊢; obtain ⟨xs, e, hr⟩ := hr; exact ⟨xs, e, h.repL hi hr⟩
theorem View.tup {cs ds : List AV} (h : ViewL σ cs ds) : View σ (.tup cs) (.tup ds) := fun G own E w v hi hr => by
  simp only [Rep] at hr ⊢; obtain ⟨xs, e, hr⟩ := hr; exact ⟨xs, e, h.repL hi hr⟩

theorem View.nils (k : Nat) : View σ .nils (.sl k []) := fun G own E w v hi hr => by
  simp only [Rep] at hr ⊢; exact ⟨none, 0, hr, Nat.le_refl _, Nat.zero_le _, by simp, .inl trivial⟩
theorem View.tsl0 (k : Nat) : View σ (.tsl k []) (.sl k []) := fun G own E w v hi hr => by
  simp only [Rep] at hr ⊢
  obtain ⟨a, e, _⟩ := hr
  exact ⟨a, 0, e, Nat.le_refl _, Nat.zero_le _, by simp, .inl trivial⟩

theorem View.sl {k : Nat} {es ds : List AV} (h : ViewL σ (flat es) (flat ds)) (hl : es.length = ds.length) (hk : ∀ d ∈ ds, d.size = k) : View σ (.sl k es) (.sl k ds) := fun G own E w v hi hr => by
  simp only [Rep] at hr ⊢
  obtain ⟨a, cap, e, h1, h2, h3, h4⟩ := hr
  refine ⟨a, cap, by rw [← hl]; exact e, by rw [← hl]; exact h1, h2, hk, ?_⟩
  rcases h4 with h4 | ⟨b, o, ea, hb, hr⟩
  · left; subst h4; simpa using hl.symm
  · right; exact ⟨b, o, ea, .inl hb, repRow_iff.2 (h.repAt hi (repRow_iff.1 hr))⟩
theorem View.tsl {k : Nat} {es ds : List AV} (h : ViewL σ (flat es) (flat ds)) (hl : es.length = ds.length) (hk : ∀ d ∈ ds, d.size = k) : View σ (.tsl k es) (.sl k ds) := fun G own E w v hi hr => by
  simp only [Rep] at hr ⊢
  obtain ⟨a, e, h2, h3, h4⟩ := hr
  refine ⟨a, es.length, by rw [← hl]; exact e, by rw [← hl]; exact Nat.le_refl _, h2, hk, ?_⟩
  rcases h4 with h4 | ⟨b, o, ea, hb, hr⟩
  · left; subst h4; simpa using hl.symm
  · right; exact ⟨b, o, ea, .inl hb, repRow_iff.2 (h.repAt hi (repRow_iff.1 hr))⟩

/-- A slice of a block of the store. -/
theorem View.osl {id : Id} {bk : Blk} {k off len : Nat} {t : Bool} {ds : List AV} (hσ : σ id = some bk) (hk : bk.k = k) (hle : off + len ≤ bk.els.length)
    (h : ViewL σ (flat ((bk.els.drop off).take len)) (flat ds)) (hl : ds.length = len) (hkd : ∀ d ∈ ds, d.size = k) : View σ (.osl id k off len t) (.sl k ds) := fun G own E w v hi hr => by
  obtain ⟨g, N, cur, ty, hB⟩ := hi.blk id bk hσ
  simp only [Rep] at hr ⊢
  obtain ⟨g', N', cap, hm, e, h1, h2, h3, _⟩ := hr
  rw [hB.μ] at hm
  simp only [Option.some.injEq, Prod.mk.injEq] at hm
  obtain ⟨rfl, _, rfl⟩ := hm
  refine ⟨_, cap, by rw [hl]; exact e, by rw [hl]; exact h1, by omega, hkd, .inr ⟨g, off * k, rfl, .inr ⟨id, bk, bk.k, N, hσ, hB.μ⟩, ?_⟩⟩
  refine repRow_iff.2 (h.repAt hi ?_)
  have := repAt_sub (l := off) (r := off + len) hB.k hB.row (by omega) hle
  rw [Nat.zero_add, hk] at this
  have e2 : (bk.els.take (off + len)).drop off = (bk.els.drop off).take len := by rw [List.drop_take]; congr 1; omega
  rwa [e2] at this

/-! ### Contracts -/

/-- The function takes trees that touch no store, and returns r. -/
def VP (P : Program) (G : Nat → Option (List AV)) (f : FuncId) (args : List AV) (r : AV) : Prop :=
  (∃ fn, P.funcs[f]? = some fn ∧ (fn.name == "runtime.NumGoroutine") = false ∧ fn.body.isSome = true) ∧
  ∀ w vs ok, Inv G (fun k => w.heap.size ≤ k) ⟨fun _ => none, ok⟩ w (fun _ => none) → RepL ⟨fun _ => none, ok⟩ w args vs →
    Calls P f vs.toArray w fun e w' => ∃ v ok', e = .returned v ∧ Adv (fun k => w.heap.size ≤ k) ⟨fun _ => none, ok⟩ ⟨fun _ => none, ok'⟩ w w' ∧ (∀ b, ok' b → b < w'.heap.size) ∧ Rep ⟨fun _ => none, ok'⟩ w' r v

/-- A call with trees that touch no store. -/
theorem CallRel.of_VP {f : FuncId} {args : List AV} {r : AV} (h : VP P G f args r) (hp : ∀ c ∈ args, PureAV c) (p : Id) : CallRel P G f args p [] { val := r } := by
  refine ⟨h.1, fun own E w σ vs _ hi hr hμ => ?_⟩
  have hi0 : Inv G (fun k => w.heap.size ≤ k) ⟨fun _ => none, E.ok⟩ w (fun _ => none) := ⟨hi.okb, fun id bk h => by simp at h, fun i j x y h => absurd rfl h, hi.glob, fun k hk => hk⟩
  refine (h.2 w vs E.ok hi0 (PureAV.repL hp hr)).mono fun e w' he => ?_
  obtain ⟨v, ok', rfl, had, hok, hv⟩ := he
  have hadv : Adv own E ⟨E.μ, ok'⟩ w w' :=
    ⟨⟨fun _ _ h => h, had.step.ok, had.step.same⟩, had.os, had.tape, had.output, had.size, fun k hk _ => had.block k hk (by omega), fun b hb => (had.okn b hb).imp id fun h => hi.new b h⟩
  refine ⟨v, ⟨E.μ, ok'⟩, rfl, hadv, ?_, ?_, fun _ _ => rfl⟩
  · refine hi.keep hadv rfl hok fun id bk g N hs hm => ?_
    obtain ⟨g', N', cur, ty, hB⟩ := hi.blk id bk hs
    rw [hB.μ] at hm
    simp only [Option.some.injEq, Prod.mk.injEq] at hm
    obtain ⟨rfl, _, rfl⟩ := hm
    have hg := cells_lt hB.heap
    exact ⟨had.block _ hg (by omega), fun hf hb => (had.okn _ hb).elim (hB.no hf) (fun h => by omega)⟩
  · exact Rep.keep (⟨fun _ _ h => by simp at h, fun _ h => h, fun _ _ => rfl⟩ : Step ⟨fun _ => none, ok'⟩ ⟨E.μ, ok'⟩ w' w') r v hv

/-- What the slots of a function's results hold. -/
def resAV (s : VS) : VRes → Option AV
  | .tmp t => some (s.t.getD t (.tup []))
  | .cell x agg n => (vload s.σ agg n (s.t.getD x (.tup []))).map (·.val)

def outAV (rs : List VRes) (s : VS) : Option AV :=
  match rs.mapM (resAV s) with
  | some [v] => some v
  | some vs => some (.tup vs)
  | none => none

theorem mapM_run {α β : Type} {f : α → Sem β} : ∀ (l : List α) (vs : List β), vs.length = l.length → (∀ (i : Nat) (a : α) (v : β), l[i]? = some a → vs[i]? = some v → (f a).run P w = .ok v w) → (l.mapM f).run P w = .ok vs w
  | [], vs, hl, _ => by
    have : vs = [] := List.eq_nil_of_length_eq_zero hl
    subst this; rfl
  | a :: l, [], hl, _ => by simp at hl
  | a :: l, v :: vs, hl, h => by
    have h0 := h 0 a v rfl rfl
    have ih := mapM_run l vs (by simpa using hl) (fun i x y hx hy => h (i + 1) x y (by simpa using hx) (by simpa using hy))
    simp [List.mapM_cons, h0, ih]

theorem res_run {π : Id} {s : VS} {a : Act} (hm : Matched G π own E w s a) {rv : ResultVar} {vr : VRes} (hc : cRes P rv = some vr) {c : AV} (h : resAV s vr = some c) :
    ∃ v, (match rv with | .tmp t => (pure (a.tmps.getD t undef) : Sem Value) | .cell x t => do loadVar t (← asAddr (a.tmps.getD x undef))).run P w = .ok v w ∧ Rep E w c v := by
  cases rv with
  | tmp t =>
    simp only [cRes, Option.some.injEq] at hc; subst hc
    simp only [resAV, Option.some.injEq] at h; subst h
    exact ⟨_, rfl, hm.frame.get t⟩
  | cell x t =>
    simp only [cRes] at hc
    cases ha : isAggT P t with
    | none => simp [ha] at hc
    | some g =>
    cases hti : P.info? t with
    | none => simp [ha, hti] at hc
    | some i =>
      simp only [ha, hti] at hc
      split at hc
      · simp only [Option.some.injEq] at hc; subst hc
        simp only [resAV, Option.map_eq_some_iff] at h
        obtain ⟨r, hr, rfl⟩ := h
        obtain ⟨⟨v, h1, h2⟩, _, ad, had⟩ := vload_run hm.inv ha hti (hm.frame.get x) hr
        refine ⟨v, ?_, h2⟩
        simp only []
        rw [had] at h1 ⊢
        simpa [Instr.loadAt, Instr.sureAddr, asAddr] using h1
      · simp at hc

theorem results_run {π : Id} {s : VS} {a : Act} (hm : Matched G π own E w s a) {fn : Func} {rs : List VRes} (hc : fn.results.toList.mapM (cRes P) = some rs) {c : AV} (h : outAV rs s = some c) :
    ∃ v, (results fn a.tmps).run P w = .ok v w ∧ Rep E w c v := by
  unfold outAV at h
  cases hcs : rs.mapM (resAV s) with
  | none => simp [hcs] at h
  | some cs =>
    have hlen : cs.length = fn.results.toList.length := by rw [mapM_some_len hcs, mapM_some_len hc]
    let F : ResultVar → Sem Value := fun rv => match rv with | .tmp t => (pure (a.tmps.getD t undef) : Sem Value) | .cell x t => do loadVar t (← asAddr (a.tmps.getD x undef))
    have hex : ∀ j, j < cs.length → ∃ v, (∀ rv, fn.results.toList[j]? = some rv → (F rv).run P w = .ok v w) ∧ ∀ c, cs[j]? = some c → Rep E w c v := by
      intro j hj
      obtain ⟨vr, h1, h2⟩ := mapM_some_get hcs j cs[j] (by simp [hj])
      obtain ⟨rv, h3, h4⟩ := mapM_some_get hc j vr h1
      obtain ⟨v, h5, h6⟩ := res_run hm h4 h2
      refine ⟨v, fun rv' hrv => ?_, fun c hc => ?_⟩
      · rw [h3] at hrv; simp only [Option.some.injEq] at hrv; subst hrv; exact h5
      · simp only [hj, List.getElem?_eq_getElem, Option.some.injEq] at hc; subst hc; exact h6
    let val : Nat → Value := fun j => if hj : j < cs.length then Classical.choose (hex j hj) else undef
    have hval : ∀ j (hj : j < cs.length), (∀ rv, fn.results.toList[j]? = some rv → (F rv).run P w = .ok (val j) w) ∧ ∀ c, cs[j]? = some c → Rep E w c (val j) := by
      intro j hj
      simp only [val, hj, dif_pos]
      exact Classical.choose_spec (hex j hj)
    let vs : List Value := (List.range cs.length).map val
    have hvl : vs.length = cs.length := by simp [vs]
    have hrun : (fn.results.toList.mapM F).run P w = .ok vs w := by
      refine mapM_run _ vs (by rw [hvl, hlen]) fun i rv v hrv hv => ?_
      have hi : i < cs.length := by have := (List.getElem?_eq_some_iff.1 hv).1; omega
      have : v = val i := by simp [vs, hi] at hv; exact hv.symm
      subst this
      exact (hval i hi).1 rv hrv
    have hrep : RepL E w cs vs := repL_iff.2 ⟨hvl, fun j c hj => by
      have hjl := (List.getElem?_eq_some_iff.1 hj).1
      exact ⟨val j, by simp [vs, hjl], (hval j hjl).2 c hj⟩⟩
    have hres : (results fn a.tmps).run P w = (pure (if h : vs.toArray.size = 1 then vs.toArray[0] else .tuple vs.toArray) : Sem Value).run P w := by
      unfold results
      rw [Array.mapM_eq_mapM_toList]
      simp only [Sem.run_bind, Sem.run_map]
      exact congrArg (fun x : Result (List Value) => (x.andThen fun b w' => Result.ok b.toArray w').andThen fun b w' => Sem.run P (pure (if h : b.size = 1 then b[0] else Value.tuple b)) w') hrun
    rw [hres]
    refine ⟨_, rfl, ?_⟩
    simp only [hcs] at h
    split at h
    · rename_i c0 heq
      simp only [Option.some.injEq] at heq h
      subst h
      have hs1 : vs.toArray.size = 1 := by simp [hvl, heq]
      rw [dif_pos hs1]
      rw [heq] at hrep
      simp only [RepL] at hrep
      obtain ⟨v, rest, hv, h1, rfl⟩ := hrep
      simpa [hv] using h1
    · rename_i cs' hne heq
      simp only [Option.some.injEq] at heq h
      subst h; subst heq
      have hs1 : ¬ vs.toArray.size = 1 := by
        intro e
        simp [hvl] at e
        obtain ⟨x, hx⟩ := List.length_eq_one_iff.1 e
        exact hne x (by rw [hx])
      rw [dif_neg hs1]
      simp only [Rep]
      exact ⟨_, rfl, by simpa using hrep⟩
    · simp at *

/-- A contract out of a proof about the code. -/
theorem VP.of_vw {f : FuncId} {fn : Func} {vf : VFunc} (hf : P.funcs[f]? = some fn) (hc : cFunc P fn = some vf) {args : List AV} {r : AV}
    (h : VW P G [] vf.body (fun e s' => (e = .normal ∨ e = .ret) ∧ ∃ r0, outAV vf.results s' = some r0 ∧ View s'.σ r0 r) ⟨args ++ List.replicate (vf.nt - args.length) (.tup []), fun _ => none, 0⟩) : VP P G f args r := by
  unfold cFunc at hc
  split at hc
  · simp at hc
  · rename_i hname
    split at hc
    · rename_i c rs hb hrs
      simp only [Option.map_eq_some_iff] at hc
      obtain ⟨vb, hvb, rfl⟩ := hc
      refine ⟨⟨fn, hf, by simpa using hname, by simp [hb]⟩, fun w vs ok hi hr => ?_⟩
      refine calls_of_wp hf hb ?_
      have hal : vs.length = args.length := RepL.len hr
      have hm : Matched G [] (fun k => w.heap.size ≤ k) ⟨fun _ => none, ok⟩ w ⟨args ++ List.replicate (fn.ntmps - args.length) (.tup []), fun _ => none, 0⟩
          { tmps := vs.toArray ++ Array.replicate (fn.ntmps - vs.toArray.size) undef, defers := [] } := by
        refine ⟨?_, hi, fun _ _ _ => rfl, rfl⟩
        show RepL _ w _ _
        simp only [Array.toList_append, Array.toList_replicate, List.size_toArray, hal]
        refine RepL.append hr (repL_iff.2 ⟨by simp, fun j c hj => ?_⟩)
        have hjl : j < fn.ntmps - args.length := by have := (List.getElem?_eq_some_iff.1 hj).1; simpa using this
        simp only [List.getElem?_replicate, hjl, if_true, Option.some.injEq] at hj ⊢
        subst hj
        exact ⟨undef, rfl, by simp only [Rep, undef]; exact ⟨#[], rfl, by simp [RepL]⟩⟩
      refine h c hvb _ _ w _ _ hm ?_
      intro e s' E' w' a' hq had hm'
      obtain ⟨he, r0, hr0, hview⟩ := hq
      obtain ⟨v, hv1, hv2⟩ := results_run hm' hrs hr0
      have fin : ∃ v, (results fn a'.tmps).run P w' = .ok v w' ∧ ∃ v' ok', Ending.returned v = .returned v' ∧ Adv (fun k => w.heap.size ≤ k) ⟨fun _ => none, ok⟩ ⟨fun _ => none, ok'⟩ w w' ∧ (∀ b, ok' b → b < w'.heap.size) ∧ Rep ⟨fun _ => none, ok'⟩ w' r v' := by
        refine ⟨v, hv1, v, (E'.froze s'.σ).ok, rfl, ?_, ?_, ?_⟩
        · refine ⟨⟨fun _ _ h => by simp at h, fun b hb => .inl (had.step.ok b hb), had.step.same⟩, had.os, had.tape, had.output, had.size, had.block, ?_⟩
          rintro b (hb | ⟨id, bk, k, N, hs, hmu⟩)
          · exact had.okn b hb
          · obtain ⟨g, N', cur, ty, hB⟩ := hm'.inv.blk id bk hs
            rw [hB.μ] at hmu
            simp only [Option.some.injEq, Prod.mk.injEq] at hmu
            right; rw [← hmu.1]; exact hB.own
        · rintro b (hb | ⟨id, bk, k, N, hs, hmu⟩)
          · exact hm'.inv.okb b hb
          · obtain ⟨g, N', cur, ty, hB⟩ := hm'.inv.blk id bk hs
            rw [hB.μ] at hmu
            simp only [Option.some.injEq, Prod.mk.injEq] at hmu
            rw [← hmu.1]; exact cells_lt hB.heap
        · exact hview G _ E' w' v hm'.inv hv2
      rcases he with rfl | rfl
      · exact ⟨hm'.defers, fin⟩
      · exact ⟨hm'.defers, fin⟩
    · simp at hc

end

end Go.VL
