/- The V-layer, part 2: the store of blocks that a call may write, what it asks of the world (Inv), and what an allocation, a store and a draw do to it. -/
import Derived.Test.YtcomlgfjnjpebaaGreatDoorVL1
import Derived.Laws.CopyRow
import Derived.Laws.Tables
import Derived.Laws.NewBlocks
namespace Go.VL

/-- A block of the store: its elements, of k cells each; fr: nobody writes it any more. -/
structure Blk where
  els : List AV
  k : Nat
  fr : Bool := false

abbrev Store := Id → Option Blk
def Store.put (σ : Store) (id : Id) (b : Option Blk) : Store := fun i => if i = id then b else σ i
theorem Store.put_same (σ : Store) (id : Id) (b : Option Blk) : σ.put id b id = b := by simp [Store.put]
theorem Store.put_other (σ : Store) (id : Id) (b : Option Blk) {i : Id} (h : i ≠ id) : σ.put id b i = σ i := by simp [Store.put, h]

structure BlkAt (E : Env) (own : Nat → Prop) (w : World) (id : Id) (bk : Blk) (g N : Nat) (cur : Array Value) (ty : TypeId) : Prop where
  μ : E.μ id = some (g, bk.k, N)
  heap : w.heap[g]? = some (.cells cur ty (0, 0))
  size : cur.size = N * bk.k
  len : bk.els.length ≤ N
  most : N ≤ maxLen
  own : own g
  ok : bk.fr = true → E.ok g
  no : bk.fr = false → ¬ E.ok g
  k : ∀ e ∈ bk.els, e.size = bk.k
  row : RepAt E w g 0 (flat bk.els)

def BlkOk (E : Env) (own : Nat → Prop) (w : World) (id : Id) (bk : Blk) : Prop := ∃ g N cur ty, BlkAt E own w id bk g N cur ty

/-- The same blocks that nobody writes, no store. -/
def Env.bare (E : Env) : Env := ⟨fun _ => none, E.ok⟩

/-- What holds of the world during a call: G: the variables of the program that are known; own: the blocks that the call may write. -/
structure Inv (G : Nat → Option (List AV)) (own : Nat → Prop) (E : Env) (w : World) (σ : Store) : Prop where
  okb : ∀ b, E.ok b → b < w.heap.size
  blk : ∀ id bk, σ id = some bk → BlkOk E own w id bk
  inj : ∀ i j x y, σ i ≠ none → σ j ≠ none → i ≠ j → E.μ i = some x → E.μ j = some y → x.1 ≠ y.1
  glob : ∀ g cs, G g = some cs → E.ok g ∧ RepCells E.bare w g 0 cs
  new : ∀ k, w.heap.size ≤ k → own k

/-- The world has gone on: what is read lives on, and only blocks of the call's own have been written. -/
structure Adv (own : Nat → Prop) (E E' : Env) (w w' : World) : Prop where
  step : Step E E' w w'
  os : w'.os = w.os
  tape : w'.tape = w.tape
  output : w'.output = w.output
  size : w.heap.size ≤ w'.heap.size
  block : ∀ k, k < w.heap.size → ¬ own k → w'.heap[k]? = w.heap[k]?
  okn : ∀ b, E'.ok b → E.ok b ∨ own b

theorem Step.bare {E E' : Env} {w w' : World} (h : Step E E' w w') : Step E.bare E'.bare w w' := ⟨fun _ _ h => by simp [Env.bare] at h, h.ok, h.same⟩
theorem Step.unbare (E : Env) (w : World) : Step E.bare E w w := ⟨fun _ _ h => by simp [Env.bare] at h, fun _ h => h, fun _ _ => rfl⟩
theorem Step.refl (E : Env) (w : World) : Step E E w w := ⟨fun _ _ h => h, fun _ h => h, fun _ _ => rfl⟩
theorem Step.trans {E E' E'' : Env} {w w' w'' : World} (a : Step E E' w w') (b : Step E' E'' w' w'') : Step E E'' w w'' :=
  ⟨fun i x h => b.μ i x (a.μ i x h), fun x h => b.ok x (a.ok x h), fun x h => (b.same x (a.ok x h)).trans (a.same x h)⟩
theorem Adv.refl (own : Nat → Prop) (E : Env) (w : World) : Adv own E E w w :=
  ⟨Step.refl E w, rfl, rfl, rfl, Nat.le_refl _, fun _ _ _ => rfl, fun _ h => .inl h⟩
theorem Adv.trans {own : Nat → Prop} {E E' E'' : Env} {w w' w'' : World} (a : Adv own E E' w w') (b : Adv own E' E'' w' w'') : Adv own E E'' w w'' :=
  ⟨a.step.trans b.step, b.os.trans a.os, b.tape.trans a.tape, b.output.trans a.output, Nat.le_trans a.size b.size,
    fun k hk ho => (b.block k (Nat.lt_of_lt_of_le hk a.size) ho).trans (a.block k hk ho),
    fun x h => (b.okn x h).elim (fun h => a.okn x h) .inr⟩

/-- A draw turns nothing. -/
theorem Adv.drew {own : Nat → Prop} (E : Env) (w : World) : Adv own E E w w.drew :=
  ⟨⟨fun _ _ h => h, fun _ h => h, fun _ _ => rfl⟩, rfl, rfl, rfl, Nat.le_refl _, fun _ _ _ => rfl, fun _ h => .inl h⟩

theorem BlkAt.keep {E E' : Env} {own : Nat → Prop} {w w' : World} {id : Id} {bk : Blk} {g N : Nat} {cur : Array Value} {ty : TypeId} (h : BlkAt E own w id bk g N cur ty)
    (s : Step E E' w w') (hb : w'.heap[g]? = w.heap[g]?) (hno : bk.fr = false → ¬ E'.ok g) : BlkAt E' own w' id bk g N cur ty :=
  ⟨s.μ _ _ h.μ, hb.trans h.heap, h.size, h.len, h.most, h.own, fun hf => s.ok _ (h.ok hf), hno, h.k, RepAt.keep s hb h.row⟩

theorem cells_lt {w : World} {g : Nat} {o : Obj} (h : w.heap[g]? = some o) : g < w.heap.size := (Array.getElem?_eq_some_iff.1 h).1

/-- The world has gone on and no block of the store has turned: the invariant stays. -/
theorem Inv.keep {G : Nat → Option (List AV)} {own : Nat → Prop} {E E' : Env} {w w' : World} {σ : Store} (h : Inv G own E w σ) (a : Adv own E E' w w')
    (hμ : E'.μ = E.μ) (hok : ∀ b, E'.ok b → b < w'.heap.size)
    (hb : ∀ id bk g N, σ id = some bk → E.μ id = some (g, bk.k, N) → w'.heap[g]? = w.heap[g]? ∧ (bk.fr = false → ¬ E'.ok g)) : Inv G own E' w' σ where
  okb := hok
  blk := fun id bk hs => by
    obtain ⟨g, N, cur, ty, hB⟩ := h.blk id bk hs
    obtain ⟨h1, h2⟩ := hb id bk g N hs hB.μ
    exact ⟨g, N, cur, ty, hB.keep a.step h1 h2⟩
  inj := by rw [hμ]; exact h.inj
  glob := fun g cs hg => let ⟨h1, h2⟩ := h.glob g cs hg; ⟨a.step.ok g h1, RepCells.keep a.step.bare (a.step.same g h1) cs 0 h2⟩
  new := fun k hk => h.new k (Nat.le_trans a.size hk)

theorem Inv.drew {G : Nat → Option (List AV)} {own : Nat → Prop} {E : Env} {w : World} {σ : Store} (h : Inv G own E w σ) : Inv G own E w.drew σ :=
  h.keep (Adv.drew E w) rfl h.okb (fun id bk g N hs hm => ⟨rfl, fun hf => by obtain ⟨g', N', cur, ty, hB⟩ := h.blk id bk hs; have := hB.μ.symm.trans hm; simp only [Option.some.injEq, Prod.mk.injEq] at this; rw [← this.1]; exact hB.no hf⟩)

/-! ### Values beside trees -/

/-- The first values are those of the trees. -/
def RepP (E : Env) (w : World) (cs : List AV) (vs : List Value) : Prop := ∀ (j : Nat) (c : AV), cs[j]? = some c → ∃ v : Value, vs[j]? = some v ∧ Rep E w c v

theorem RepL.len {E : Env} {w : World} : ∀ {cs : List AV} {vs : List Value}, RepL E w cs vs → vs.length = cs.length
  | [], vs, h => by simp only [RepL] at h; simp [h]
  | c :: cs, vs, h => by
    simp only [RepL] at h
    obtain ⟨v, rest, rfl, _, h2⟩ := h
    simp [RepL.len h2]

theorem repL_iff {E : Env} {w : World} : ∀ {cs : List AV} {vs : List Value}, RepL E w cs vs ↔ vs.length = cs.length ∧ RepP E w cs vs
  | [], vs => by simp [RepL, RepP]
  | c :: cs, vs => by
    constructor
    · intro h
      refine ⟨RepL.len h, ?_⟩
      simp only [RepL] at h
      obtain ⟨v, rest, rfl, h1, h2⟩ := h
      intro j d hj
      cases j with
      | zero => simp only [List.getElem?_cons_zero, Option.some.injEq] at hj; subst hj; exact ⟨v, rfl, h1⟩
      | succ j => simpa using (repL_iff.1 h2).2 j d (by simpa using hj)
    · rintro ⟨hl, h⟩
      simp only [RepL]
      obtain ⟨v, hv, h1⟩ := h 0 c rfl
      cases vs with
      | nil => simp at hv
      | cons x rest =>
        simp only [List.getElem?_cons_zero, Option.some.injEq] at hv
        subst hv
        refine ⟨x, rest, rfl, h1, repL_iff.2 ⟨by simpa using hl, fun j d hj => ?_⟩⟩
        simpa using h (j + 1) d (by simpa using hj)

theorem RepP.append {E : Env} {w : World} {xs ys : List AV} {us vs : List Value} (h1 : RepP E w xs us) (hl : us.length = xs.length) (h2 : RepP E w ys vs) : RepP E w (xs ++ ys) (us ++ vs) := by
  intro j c hj
  by_cases hlt : j < xs.length
  · rw [List.getElem?_append_left hlt] at hj
    rw [List.getElem?_append_left (by omega)]; exact h1 j c hj
  · rw [List.getElem?_append_right (by omega)] at hj
    rw [List.getElem?_append_right (by omega), hl]; exact h2 _ c hj

theorem RepP.keep {E E' : Env} {w w' : World} (s : Step E E' w w') {cs : List AV} {vs : List Value} (h : RepP E w cs vs) : RepP E' w' cs vs :=
  fun j c hj => let ⟨v, hv, hr⟩ := h j c hj; ⟨v, hv, Rep.keep s c v hr⟩

theorem Rep.one {E : Env} {w : World} : ∀ {c : AV} {v : Value}, Rep E w c v → c.one = true → v.oneCell' = true
  | .bool _, _, h, _ | .int _ _, _, h, _ | .str _, _, h, _ | .nilp, _, h, _ | .nilf, _, h, _ | .nils, _, h, _ => by simp only [Rep] at h; subst h; rfl
  | .fn _ _ _, _, h, _ => by simp only [Rep] at h; obtain ⟨_, _, rfl, _⟩ := h; rfl
  | .sl _ _, _, h, _ => by simp only [Rep] at h; obtain ⟨_, _, rfl, _⟩ := h; rfl
  | .tsl _ _, _, h, _ => by simp only [Rep] at h; obtain ⟨_, rfl, _⟩ := h; rfl
  | .osl _ _ _ _ _, _, h, _ => by simp only [Rep] at h; obtain ⟨_, _, _, _, rfl, _⟩ := h; rfl
  | .ref _ _ _, _, h, _ => by simp only [Rep] at h; obtain ⟨_, _, _, _, rfl⟩ := h; rfl
  | .ep _ _, _, h, _ => by simp only [Rep] at h; obtain ⟨_, _, rfl, _⟩ := h; rfl

/-- The cells of a value are those of its tree. -/
theorem Rep.cells {E : Env} {w : World} : ∀ {c : AV} {v : Value}, Rep E w c v → (c.one = true ∨ ∃ cs, c = .agg cs) → RepL E w c.cells v.cells.toList
  | .agg cs, v, h, _ => by simp only [Rep] at h; obtain ⟨xs, rfl, h⟩ := h; exact h
  | .tup _, _, _, h => by simp [AV.one] at h
  | .top, _, _, h | .anyb, _, _, h | .ige _, _, _, h => by simp [AV.one] at h
  | .bool _, v, h, _ | .int _ _, v, h, _ | .str _, v, h, _ | .nilp, v, h, _ | .nilf, v, h, _ | .nils, v, h, _ => by
    have h' := h
    simp only [Rep] at h; subst h; simp only [AV.cells, Value.cells, RepL]; exact ⟨_, _, rfl, h', rfl⟩
  | .fn _ _ _, v, h, _ => by
    have h' := h
    simp only [Rep] at h; obtain ⟨_, _, rfl, _⟩ := h; simp only [AV.cells, Value.cells, RepL]; exact ⟨_, _, rfl, h', rfl⟩
  | .sl _ _, v, h, _ => by
    have h' := h
    simp only [Rep] at h; obtain ⟨_, _, rfl, _⟩ := h; simp only [AV.cells, Value.cells, RepL]; exact ⟨_, _, rfl, h', rfl⟩
  | .tsl _ _, v, h, _ => by
    have h' := h
    simp only [Rep] at h; obtain ⟨_, rfl, _⟩ := h; simp only [AV.cells, Value.cells, RepL]; exact ⟨_, _, rfl, h', rfl⟩
  | .osl _ _ _ _ _, v, h, _ => by
    have h' := h
    simp only [Rep] at h; obtain ⟨_, _, _, _, rfl, _⟩ := h; simp only [AV.cells, Value.cells, RepL]; exact ⟨_, _, rfl, h', rfl⟩
  | .ref _ _ _, v, h, _ => by
    have h' := h
    simp only [Rep] at h; obtain ⟨_, _, _, _, rfl⟩ := h; simp only [AV.cells, Value.cells, RepL]; exact ⟨_, _, rfl, h', rfl⟩
  | .ep _ _, v, h, _ => by
    have h' := h
    simp only [Rep] at h; obtain ⟨_, _, rfl, _⟩ := h; simp only [AV.cells, Value.cells, RepL]; exact ⟨_, _, rfl, h', rfl⟩

/-! ### A new block -/

def Env.bind (E : Env) (id : Id) (g k N : Nat) : Env := { E with μ := fun i => if i = id then some (g, k, N) else E.μ i }
theorem Env.bind_same (E : Env) (id : Id) (g k N : Nat) : (E.bind id g k N).μ id = some (g, k, N) := by simp [Env.bind]
theorem Env.bind_other (E : Env) (id : Id) (g k N : Nat) {i : Id} (h : i ≠ id) : (E.bind id g k N).μ i = E.μ i := by simp [Env.bind, h]

theorem heap_alloc_lt (w : World) (o : Obj) {k : Nat} (h : k < w.heap.size) : (w.alloc o).heap[k]? = w.heap[k]? := heap_alloc_old w o k h
theorem size_alloc (w : World) (o : Obj) : (w.alloc o).heap.size = w.heap.size + 1 := by simp

theorem Step.alloc {E : Env} {w : World} {id : Id} (hid : E.μ id = none) (hokb : ∀ b, E.ok b → b < w.heap.size) (o : Obj) (k N : Nat) :
    Step E (E.bind id w.heap.size k N) w (w.alloc o) where
  μ := fun i x h => by rw [Env.bind_other]; exact h; rintro rfl; simp [hid] at h
  ok := fun _ h => h
  same := fun b hb => heap_alloc_lt w o (hokb b hb)

/-- A new block of the call's own. -/
theorem alloc_ok {G : Nat → Option (List AV)} {own : Nat → Prop} {E : Env} {w : World} {σ : Store} (h : Inv G own E w σ) {id : Id} (hid : E.μ id = none) (hσ : σ id = none)
    {els : List AV} {k N : Nat} {vs : List Value} (ty : TypeId) (hk : ∀ e ∈ els, e.size = k) (hv : RepP E w (flat els) vs) (hl : vs.length = N * k) (hN : els.length ≤ N) (hm : N ≤ maxLen) :
    Adv own E (E.bind id w.heap.size k N) w (w.alloc (.cells vs.toArray ty)) ∧ Inv G own (E.bind id w.heap.size k N) (w.alloc (.cells vs.toArray ty)) (σ.put id (some ⟨els, k, false⟩)) := by
  have hs : Step E (E.bind id w.heap.size k N) w (w.alloc (.cells vs.toArray ty)) := Step.alloc hid h.okb _ k N
  have hadv : Adv own E (E.bind id w.heap.size k N) w (w.alloc (.cells vs.toArray ty)) :=
    ⟨hs, rfl, rfl, rfl, by rw [size_alloc]; omega, fun k hk _ => heap_alloc_lt w _ hk, fun _ hb => .inl hb⟩
  refine ⟨hadv, ?_, ?_, ?_, ?_, ?_⟩
  · intro b hb; rw [size_alloc]; have := h.okb b hb; omega
  · intro i bk hi
    by_cases he : i = id
    · subst he
      rw [Store.put_same] at hi
      simp only [Option.some.injEq] at hi
      subst hi
      refine ⟨w.heap.size, N, vs.toArray, ty, Env.bind_same _ _ _ _ _, heap_alloc_new w _, by simpa using hl, hN, hm, h.new _ (Nat.le_refl _), by simp, fun _ hb => ?_, hk, ?_⟩
      · exact absurd (h.okb _ hb) (by omega)
      · intro j c hj
        obtain ⟨v, hv1, hv2⟩ := hv j c hj
        refine ⟨v, ?_, Rep.keep hs c v hv2⟩
        rw [cell_of_row _ _ _ _ _ _ (heap_alloc_new w (.cells vs.toArray ty))]
        simpa using hv1
    · rw [Store.put_other _ _ _ he] at hi
      obtain ⟨g, N', cur, ty', hB⟩ := h.blk i bk hi
      have hg := cells_lt hB.heap
      exact ⟨g, N', cur, ty', hB.keep hs (heap_alloc_lt w _ hg) (fun hf => hB.no hf)⟩
  · intro i j x y hi hj hne hx hy
    by_cases hie : i = id
    · subst hie
      have hje : j ≠ i := fun e => hne e.symm
      rw [Store.put_other _ _ _ hje] at hj
      rw [Env.bind_same] at hx
      rw [Env.bind_other _ _ _ _ _ hje] at hy
      cases hb : σ j with
      | none => exact absurd hb hj
      | some bk =>
        obtain ⟨g, N', cur, ty', hB⟩ := h.blk j bk hb
        have hg := cells_lt hB.heap
        rw [hB.μ] at hy
        simp only [Option.some.injEq] at hx hy
        rw [← hx, ← hy]; simp only []; omega
    · rw [Store.put_other _ _ _ hie] at hi
      rw [Env.bind_other _ _ _ _ _ hie] at hx
      by_cases hje : j = id
      · subst hje
        rw [Env.bind_same] at hy
        cases hb : σ i with
        | none => exact absurd hb hi
        | some bk =>
          obtain ⟨g, N', cur, ty', hB⟩ := h.blk i bk hb
          have hg := cells_lt hB.heap
          rw [hB.μ] at hx
          simp only [Option.some.injEq] at hx hy
          rw [← hx, ← hy]; simp only []; omega
      · rw [Store.put_other _ _ _ hje] at hj
        rw [Env.bind_other _ _ _ _ _ hje] at hy
        exact h.inj i j x y hi hj hne hx hy
  · intro g cs hg
    obtain ⟨h1, h2⟩ := h.glob g cs hg
    exact ⟨h1, RepCells.keep hs.bare (hs.same g h1) cs 0 h2⟩
  · intro k hk; rw [size_alloc] at hk; exact h.new k (by omega)

/-! ### A store into a block of the call's own -/

/-- The cells of an element from o on are written anew. -/
def AV.upd (c : AV) (o : Nat) (new : List AV) : AV :=
  match c with
  | .agg cs => .agg (cs.take o ++ new ++ cs.drop (o + new.length))
  | c => new.headD c

theorem AV.cells_upd {c : AV} {o : Nat} {new : List AV} (h : o + new.length ≤ c.size) (h1 : ∀ x ∈ new, x.one = true) : (c.upd o new).cells = c.cells.take o ++ new ++ c.cells.drop (o + new.length) := by
  have single : ∀ c : AV, c.cells = [c] → c.upd o new = new.headD c → o + new.length ≤ c.size → (c.upd o new).cells = c.cells.take o ++ new ++ c.cells.drop (o + new.length) := by
    intro c hc hu hle
    rw [hu, hc]
    simp only [AV.size, hc, List.length_singleton] at hle
    match new, h1, hle with
    | [], _, hle =>
      have : o = 0 ∨ o = 1 := by simp at hle; omega
      rcases this with rfl | rfl <;> simp [hc]
    | [x], h1, hle =>
      have ho : o = 0 := by simp at hle; omega
      subst ho
      have hx := h1 x (by simp)
      cases x <;> simp [AV.one] at hx <;> simp [AV.cells]
    | _ :: _ :: _, _, hle => simp at hle; omega
  cases c <;> first | exact single _ rfl rfl h | rfl

theorem AV.size_upd {c : AV} {o : Nat} {new : List AV} (h : o + new.length ≤ c.size) (h1 : ∀ x ∈ new, x.one = true) : (c.upd o new).size = c.size := by
  unfold AV.size at *
  rw [AV.cells_upd h h1]
  simp only [List.length_append, List.length_take, List.length_drop]
  omega

theorem flat_set {k : Nat} : ∀ {es : List AV} {i : Nat} {e e' : AV}, (∀ x ∈ es, x.size = k) → es[i]? = some e → e'.size = k →
    flat (es.set i e') = (flat es).take (i * k) ++ e'.cells ++ (flat es).drop (i * k + k)
  | [], _, _, _, _, h, _ => by simp at h
  | x :: es, 0, e, e', h, he, hk => by
    have hx : x.cells.length = k := h x (by simp)
    have hf : flat (x :: es) = x.cells ++ flat es := by simp [flat]
    have hf' : flat ((x :: es).set 0 e') = e'.cells ++ flat es := by simp [flat]
    rw [hf, hf']
    simp [← hx]
  | x :: es, i + 1, e, e', h, he, hk => by
    have hx : x.cells.length = k := h x (by simp)
    have ih := flat_set (es := es) (i := i) (fun y hy => h y (by simp [hy])) (by simpa using he) hk
    have hf : flat (x :: es) = x.cells ++ flat es := by simp [flat]
    have hf' : flat ((x :: es).set (i + 1) e') = x.cells ++ flat (es.set i e') := by simp [flat]
    rw [hf, hf', ih]
    have e1 : (i + 1) * k = x.cells.length + i * k := by rw [hx, Nat.add_mul]; omega
    rw [e1, List.take_append, show x.cells.length + i * k + k = x.cells.length + (i * k + k) from by omega, List.drop_append]
    simp [List.take_of_length_le, List.append_assoc]

/-- The world behind a store of n values at cell p of block g. -/
theorem store_ok {G : Nat → Option (List AV)} {own : Nat → Prop} {E : Env} {w : World} {σ : Store} (h : Inv G own E w σ) {id : Id} {bk : Blk} (hσ : σ id = some bk) (hfr : bk.fr = false)
    {g N : Nat} {cur : Array Value} {ty : TypeId} (hB : BlkAt E own w id bk g N cur ty)
    {e : Nat} {el : AV} (he : bk.els[e]? = some el) {o : Nat} {new : List AV} {vs : List Value} (hle : o + new.length ≤ el.size) (h1 : ∀ x ∈ new, x.one = true) (hv : RepL E w new vs) :
    e * bk.k + o + vs.length ≤ cur.size ∧
    Adv own E E w (w.setRow g (cur.toList.take (e * bk.k + o) ++ vs ++ cur.toList.drop (e * bk.k + o + vs.length)).toArray) ∧
    Inv G own E (w.setRow g (cur.toList.take (e * bk.k + o) ++ vs ++ cur.toList.drop (e * bk.k + o + vs.length)).toArray) (σ.put id (some { bk with els := bk.els.set e (el.upd o new) })) := by
  obtain ⟨hvl, hvp⟩ := repL_iff.1 hv
  have hks : el.size = bk.k := hB.k el (List.mem_of_getElem? he)
  have hlt : e < bk.els.length := (List.getElem?_eq_some_iff.1 he).1
  have hbound : e * bk.k + o + vs.length ≤ cur.size := by
    rw [hB.size, hvl]
    have h2 : (e + 1) * bk.k ≤ N * bk.k := Nat.mul_le_mul_right _ (by have := hB.len; omega)
    rw [Nat.add_mul] at h2
    omega
  refine ⟨hbound, ?_⟩
  generalize hnv : (cur.toList.take (e * bk.k + o) ++ vs ++ cur.toList.drop (e * bk.k + o + vs.length)).toArray = nv
  have hg := cells_lt hB.heap
  have hnew : (w.setRow g nv).heap[g]? = some (.cells nv ty (0, 0)) := setRow_heap w g cur nv ty _ hB.heap
  have hs : Step E E w (w.setRow g nv) := ⟨fun _ _ h => h, fun _ h => h, fun b hb => setRow_other w g b nv (fun e => hB.no hfr (e ▸ hb))⟩
  have hadv : Adv own E E w (w.setRow g nv) :=
    ⟨hs, rfl, rfl, rfl, by simp, fun k _ hk => setRow_other w g k nv (fun e => hk (e ▸ hB.own)), fun _ h => .inl h⟩
  refine ⟨hadv, ?_, ?_, ?_, ?_, ?_⟩
  · intro b hb; simpa using h.okb b hb
  · intro i bk' hi
    by_cases hie : i = id
    · subst hie
      rw [Store.put_same] at hi
      simp only [Option.some.injEq] at hi
      subst hi
      have hu := AV.size_upd hle h1
      refine ⟨g, N, nv, ty, hB.μ, hnew, ?_, by simpa using hB.len, hB.most, hB.own, by simp [hfr], hB.no, ?_, ?_⟩
      · rw [← hnv]
        simp only [List.size_toArray, List.length_append, List.length_take, List.length_drop, Array.length_toList]
        rw [← hB.size]; omega
      · intro x hx
        rcases List.mem_or_eq_of_mem_set hx with hx | rfl
        · exact hB.k x hx
        · rw [hu]; exact hks
      · have hfl : flat (bk.els.set e (el.upd o new)) = (flat bk.els).take (e * bk.k + o) ++ new ++ (flat bk.els).drop (e * bk.k + o + new.length) := by
          rw [flat_set hB.k he (hu.trans hks), AV.cells_upd hle h1]
          have hel : ∀ j, j < bk.k → (flat bk.els)[e * bk.k + j]? = el.cells[j]? := fun j hj => flat_get hB.k he hj
          have hlen : (flat bk.els).length = bk.els.length * bk.k := flat_length hB.k
          have hcl : el.cells.length = bk.k := hks
          have hmul : (e + 1) * bk.k ≤ bk.els.length * bk.k := Nat.mul_le_mul_right _ hlt
          rw [Nat.add_mul] at hmul
          have hon : o + new.length ≤ bk.k := by have := hle; unfold AV.size at this; omega
          have hsplit : flat bk.els = (flat bk.els).take (e * bk.k) ++ el.cells ++ (flat bk.els).drop (e * bk.k + bk.k) := by
            apply List.ext_getElem?
            intro j
            by_cases h1 : j < e * bk.k
            · rw [List.append_assoc, List.getElem?_append_left (by simp; omega), List.getElem?_take_of_lt h1]
            · rw [List.append_assoc, List.getElem?_append_right (by simp; omega)]
              simp only [List.length_take, Nat.min_eq_left (show e * bk.k ≤ (flat bk.els).length by omega)]
              by_cases h2 : j - e * bk.k < bk.k
              · rw [List.getElem?_append_left (by omega), ← hel _ h2]
                congr 1; omega
              · rw [List.getElem?_append_right (by omega), List.getElem?_drop]
                congr 1; omega
          generalize (flat bk.els).take (e * bk.k) = A at hsplit ⊢
          generalize hC : (flat bk.els).drop (e * bk.k + bk.k) = C at hsplit ⊢
          have hA : A.length = e * bk.k := by
            have h3 := congrArg List.length hsplit
            simp only [List.length_append] at h3
            have h4 : C.length = (flat bk.els).length - (e * bk.k + bk.k) := by rw [← hC, List.length_drop]
            omega
          rw [hsplit]
          rw [← hA]
          simp only [List.append_assoc]
          rw [List.take_length_add_append, show A.length + o + new.length = A.length + (o + new.length) from by omega, List.drop_length_add_append,
            List.take_append_of_le_length (by omega), List.drop_append_of_le_length (by omega)]
          simp only [List.append_assoc]
        show RepAt E (w.setRow g nv) g 0 (flat (bk.els.set e (el.upd o new)))
        rw [hfl]
        have hlen : (flat bk.els).length = bk.els.length * bk.k := flat_length hB.k
        have hmul : (e + 1) * bk.k ≤ bk.els.length * bk.k := Nat.mul_le_mul_right _ hlt
        rw [Nat.add_mul] at hmul
        have hon : o + new.length ≤ bk.k := by omega
        have hcz : bk.els.length * bk.k ≤ cur.size := by rw [hB.size]; exact Nat.mul_le_mul_right _ hB.len
        intro j c hj
        have hcell : (w.setRow g nv).cell? ⟨g, 0 + j, none⟩ = nv[j]? := by rw [Nat.zero_add]; exact cell_of_row _ _ _ _ _ _ hnew
        rw [hcell]
        suffices hsuf : ∃ v, nv[j]? = some v ∧ Rep E w c v by
          obtain ⟨v, hv1, hv2⟩ := hsuf; exact ⟨v, hv1, Rep.keep hs c v hv2⟩
        rw [← hnv]
        have hold : ∀ (j : Nat) (c : AV), (flat bk.els)[j]? = some c → ∃ v : Value, cur[j]? = some v ∧ Rep E w c v := by
          intro j c hj
          obtain ⟨v, hv1, hv2⟩ := hB.row j c hj
          rw [Nat.zero_add, cell_of_row _ _ _ _ _ _ hB.heap] at hv1
          exact ⟨v, hv1, hv2⟩
        simp only [List.getElem?_toArray]
        have ha : (cur.toList.take (e * bk.k + o)).length = e * bk.k + o := by simp; omega
        have hb : ((flat bk.els).take (e * bk.k + o)).length = e * bk.k + o := by simp; omega
        rw [List.append_assoc] at hj ⊢
        by_cases c1 : j < e * bk.k + o
        · rw [List.getElem?_append_left (by omega), List.getElem?_take_of_lt c1] at hj
          rw [List.getElem?_append_left (by omega), List.getElem?_take_of_lt c1]
          obtain ⟨v, hv1, hv2⟩ := hold j c hj
          exact ⟨v, by simpa using hv1, hv2⟩
        · rw [List.getElem?_append_right (by omega), hb] at hj
          rw [List.getElem?_append_right (by omega), ha]
          by_cases c2 : j - (e * bk.k + o) < new.length
          · rw [List.getElem?_append_left c2] at hj
            rw [List.getElem?_append_left (by omega)]
            obtain ⟨v, hv1, hv2⟩ := hvp _ c hj
            exact ⟨v, hv1, hv2⟩
          · rw [List.getElem?_append_right (by omega), List.getElem?_drop] at hj
            rw [List.getElem?_append_right (by omega), List.getElem?_drop, hvl]
            obtain ⟨v, hv1, hv2⟩ := hold _ c hj
            exact ⟨v, by simpa using hv1, hv2⟩
    · rw [Store.put_other _ _ _ hie] at hi
      obtain ⟨g', N', cur', ty', hB'⟩ := h.blk i bk' hi
      have hne : g' ≠ g := h.inj i id _ _ (by simp [hi]) (by simp [hσ]) hie hB'.μ hB.μ
      exact ⟨g', N', cur', ty', hB'.keep hs (setRow_other w g g' nv hne) hB'.no⟩
  · intro i j x y hi hj hne hx hy
    refine h.inj i j x y ?_ ?_ hne hx hy
    · intro hn; by_cases hie : i = id
      · subst hie; simp [hσ] at hn
      · rw [Store.put_other _ _ _ hie] at hi; exact hi hn
    · intro hn; by_cases hie : j = id
      · subst hie; simp [hσ] at hn
      · rw [Store.put_other _ _ _ hie] at hj; exact hj hn
  · intro g' cs hg'
    obtain ⟨h1', h2'⟩ := h.glob g' cs hg'
    exact ⟨h1', RepCells.keep hs.bare (hs.same g' h1') cs 0 h2'⟩
  · intro k hk; simp at hk; exact h.new k hk

end Go.VL
