/- The V-layer, part 1: trees of data (AV), what a tree stands for in the model's memory (Rep), and that this reading survives whatever leaves its blocks alone. -/
import Derived.Calls
import Derived.Below
import Derived.Laws.AppendOwn
namespace Go.VL

/-- A tree of data. 'sl': a slice, its elements of k cells each, that nobody writes any more; 'tsl': the same without room behind it; 'nils': the nil slice; 'osl', 'ref': a slice of, a pointer into a block of the store; 'ep': a pointer to a row of cells that nobody writes; 'anyb': a bool that is not known. -/
inductive AV where
  | bool (b : Bool)
  | int (k : IntKind) (n : Int)
  | str (l : List UInt8)
  | nilp
  | nilf
  | fn (f : Fn) (first cap : List AV)
  | agg (cs : List AV)
  | tup (cs : List AV)
  | sl (k : Nat) (es : List AV)
  | tsl (k : Nat) (es : List AV)
  | nils
  | osl (id : List Nat) (k off len : Nat) (tight : Bool)
  | ref (id : List Nat) (e o : Nat)
  | ep (cs : List AV) (o : Nat)
  | top
  | anyb
  | ige (n : Nat)

instance : Inhabited AV := ⟨.top⟩

/-- The name of a block of the store: the operation that made it, and a number. -/
abbrev Id := List Nat

/-- The cells that a value takes. -/
def AV.cells : AV → List AV
  | .agg cs => cs
  | c => [c]

def AV.size (c : AV) : Nat := c.cells.length

/-- A value of one cell. -/
def AV.one : AV → Bool
  | .agg _ | .tup _ | .top | .anyb | .ige _ => false
  | _ => true

def flat (es : List AV) : List AV := es.flatMap AV.cells

/-- Where the store's blocks lie (block, cells of an element, elements), and which blocks nobody writes. -/
structure Env where
  μ : Id → Option (Nat × Nat × Nat)
  ok : Nat → Prop

mutual
def Rep (E : Env) (w : World) : AV → Value → Prop
  | .bool b, v => v = .bool b
  | .int k n, v => v = .int k n
  | .str l, v => v = .string ⟨l.toArray⟩
  | .nilp, v => v = .pointer none
  | .nilf, v => v = .nilFunc
  | .fn f a c, v => ∃ xs ys : Array Value, v = .func f xs ys ∧ RepL E w a xs.toList ∧ RepL E w c ys.toList
  | .agg cs, v => ∃ xs : Array Value, v = .agg xs ∧ RepL E w cs xs.toList
  | .tup cs, v => ∃ xs : Array Value, v = .tuple xs ∧ RepL E w cs xs.toList
  | .sl k es, v => ∃ (a : Option Addr) (cap : Nat), v = .slice a es.length cap ∧ es.length ≤ cap ∧ cap ≤ maxLen ∧ (∀ e ∈ es, e.size = k) ∧
      (es = [] ∨ ∃ b o, a = some ⟨b, o, none⟩ ∧ E.ok b ∧ RepRow E w b o es)
  | .tsl k es, v => ∃ (a : Option Addr), v = .slice a es.length es.length ∧ es.length ≤ maxLen ∧ (∀ e ∈ es, e.size = k) ∧
      (es = [] ∨ ∃ b o, a = some ⟨b, o, none⟩ ∧ E.ok b ∧ RepRow E w b o es)
  | .nils, v => v = .slice none 0 0
  | .osl id k off len tight, v => ∃ g N cap, E.μ id = some (g, k, N) ∧ v = .slice (some ⟨g, off * k, none⟩) len cap ∧ len ≤ cap ∧
      off + cap ≤ N ∧ N ≤ maxLen ∧ (if tight then cap = len else off + cap = N)
  | .ref id e o, v => ∃ g k N, E.μ id = some (g, k, N) ∧ v = .pointer (some ⟨g, e * k + o, none⟩)
  | .ep cs o, v => ∃ b p, v = .pointer (some ⟨b, p + o, none⟩) ∧ E.ok b ∧ RepCells E w b p cs
  | .top, _ => True
  | .anyb, v => ∃ b, v = .bool b
  | .ige n, v => ∃ m : Nat, n ≤ m ∧ v = .int .i64 m
def RepL (E : Env) (w : World) : List AV → List Value → Prop
  | [], vs => vs = []
  | c :: cs, vs => ∃ v rest, vs = v :: rest ∧ Rep E w c v ∧ RepL E w cs rest
def RepRow (E : Env) (w : World) (b o : Nat) : List AV → Prop
  | [] => True
  | .agg cs :: es => RepCells E w b o cs ∧ RepRow E w b (o + cs.length) es
  | c :: es => (∃ v, w.cell? ⟨b, o, none⟩ = some v ∧ Rep E w c v) ∧ RepRow E w b (o + 1) es
def RepCells (E : Env) (w : World) (b o : Nat) : List AV → Prop
  | [] => True
  | c :: cs => (∃ v, w.cell? ⟨b, o, none⟩ = some v ∧ Rep E w c v) ∧ RepCells E w b (o + 1) cs
end

theorem cell_of_heap {w w' : World} {b o : Nat} (h : w'.heap[b]? = w.heap[b]?) : w'.cell? ⟨b, o, none⟩ = w.cell? ⟨b, o, none⟩ :=
  World.cell?_of_block (a := ⟨b, o, none⟩) h

/-- What a reading needs of a step of the world. -/
structure Step (E E' : Env) (w w' : World) : Prop where
  μ : ∀ id x, E.μ id = some x → E'.μ id = some x
  ok : ∀ b, E.ok b → E'.ok b
  same : ∀ b, E.ok b → w'.heap[b]? = w.heap[b]?

mutual
theorem Rep.keep {E E' : Env} {w w' : World} (h : Step E E' w w') : ∀ (c : AV) (v : Value), Rep E w c v → Rep E' w' c v
  | .bool _, _, r => by simpa [Rep] using r
  | .int _ _, _, r => by simpa [Rep] using r
  | .str _, _, r => by simpa [Rep] using r
  | .nilp, _, r => by simpa [Rep] using r
  | .nilf, _, r => by simpa [Rep] using r
  | .nils, _, r => by simpa [Rep] using r
  | .top, _, _ => by simp [Rep]
  | .anyb, _, r => by simpa [Rep] using r
  | .ige _, _, r => by simpa [Rep] using r
  | .fn f a c, v, r => by
    simp only [Rep] at r ⊢
    obtain ⟨xs, ys, e, ra, rc⟩ := r
    exact ⟨xs, ys, e, RepL.keep h a _ ra, RepL.keep h c _ rc⟩
  | .agg cs, v, r => by
    simp only [Rep] at r ⊢
    obtain ⟨xs, e, ra⟩ := r
    exact ⟨xs, e, RepL.keep h cs _ ra⟩
  | .tup cs, v, r => by
    simp only [Rep] at r ⊢
    obtain ⟨xs, e, ra⟩ := r
    exact ⟨xs, e, RepL.keep h cs _ ra⟩
  | .sl k es, v, r => by
    simp only [Rep] at r ⊢
    obtain ⟨a, cap, e, h1, h2, hk, h3⟩ := r
    refine ⟨a, cap, e, h1, h2, hk, h3.imp id ?_⟩
    rintro ⟨b, o, ea, hb, hr⟩
    exact ⟨b, o, ea, h.ok b hb, RepRow.keep h (h.same b hb) es o hr⟩
  | .tsl k es, v, r => by
    simp only [Rep] at r ⊢
    obtain ⟨a, e, h2, hk, h3⟩ := r
    refine ⟨a, e, h2, hk, h3.imp id ?_⟩
    rintro ⟨b, o, ea, hb, hr⟩
    exact ⟨b, o, ea, h.ok b hb, RepRow.keep h (h.same b hb) es o hr⟩
  | .osl id k off len t, v, r => by
    simp only [Rep] at r ⊢
    obtain ⟨g, N, cap, hm, rest⟩ := r
    exact ⟨g, N, cap, h.μ _ _ hm, rest⟩
  | .ref id e o, v, r => by
    simp only [Rep] at r ⊢
    obtain ⟨g, k, N, hm, rest⟩ := r
    exact ⟨g, k, N, h.μ _ _ hm, rest⟩
  | .ep cs o, v, r => by
    simp only [Rep] at r ⊢
    obtain ⟨b, p, e, hb, hr⟩ := r
    exact ⟨b, p, e, h.ok b hb, RepCells.keep h (h.same b hb) cs p hr⟩
theorem RepL.keep {E E' : Env} {w w' : World} (h : Step E E' w w') : ∀ (cs : List AV) (vs : List Value), RepL E w cs vs → RepL E' w' cs vs
  | [], _, r => by simpa [RepL] using r
  | c :: cs, vs, r => by
    simp only [RepL] at r ⊢
    obtain ⟨v, rest, e, r1, r2⟩ := r
    exact ⟨v, rest, e, Rep.keep h c v r1, RepL.keep h cs rest r2⟩
theorem RepRow.keep {E E' : Env} {w w' : World} (h : Step E E' w w') {b : Nat} (hb : w'.heap[b]? = w.heap[b]?) : ∀ (es : List AV) (o : Nat), RepRow E w b o es → RepRow E' w' b o es
  | [], _, _ => by simp [RepRow]
  | .agg cs :: es, o, r => by
    simp only [RepRow] at r ⊢
    exact ⟨RepCells.keep h hb cs o r.1, RepRow.keep h hb es _ r.2⟩
  | .bool _ :: es, o, r | .int _ _ :: es, o, r | .str _ :: es, o, r | .nilp :: es, o, r | .nilf :: es, o, r | .nils :: es, o, r | .top :: es, o, r | .anyb :: es, o, r | .ige _ :: es, o, r | .fn _ _ _ :: es, o, r
  | .tup _ :: es, o, r | .sl _ _ :: es, o, r | .tsl _ _ :: es, o, r | .osl _ _ _ _ _ :: es, o, r | .ref _ _ _ :: es, o, r | .ep _ _ :: es, o, r => by
    simp only [RepRow] at r ⊢
    obtain ⟨⟨v, hv, hr⟩, r2⟩ := r
    exact ⟨⟨v, (cell_of_heap hb).trans hv, Rep.keep h _ v hr⟩, RepRow.keep h hb es _ r2⟩
theorem RepCells.keep {E E' : Env} {w w' : World} (h : Step E E' w w') {b : Nat} (hb : w'.heap[b]? = w.heap[b]?) : ∀ (cs : List AV) (o : Nat), RepCells E w b o cs → RepCells E' w' b o cs
  | [], _, _ => by simp [RepCells]
  | c :: cs, o, r => by
    simp only [RepCells] at r ⊢
    obtain ⟨⟨v, hv, hr⟩, r2⟩ := r
    exact ⟨⟨v, (cell_of_heap hb).trans hv, Rep.keep h c v hr⟩, RepCells.keep h hb cs _ r2⟩
end

/-! ### Rows of cells, read cell by cell -/

def RepAt (E : Env) (w : World) (b o : Nat) (cs : List AV) : Prop := ∀ j c, cs[j]? = some c → ∃ v, w.cell? ⟨b, o + j, none⟩ = some v ∧ Rep E w c v

theorem repCells_iff {E : Env} {w : World} {b : Nat} : ∀ {cs : List AV} {o : Nat}, RepCells E w b o cs ↔ RepAt E w b o cs
  | [], o => by simp [RepCells, RepAt]
  | c :: cs, o => by
    simp only [RepCells]
    rw [repCells_iff (cs := cs)]
    constructor
    · rintro ⟨h, hr⟩ j c' hj
      cases j with
      | zero => simp only [List.getElem?_cons_zero, Option.some.injEq] at hj; subst hj; exact h
      | succ j =>
        simp only [List.getElem?_cons_succ] at hj
        have := hr j c' hj
        rwa [show o + (j + 1) = o + 1 + j from by omega]
    · intro h
      refine ⟨h 0 c rfl, fun j c' hj => ?_⟩
      have := h (j + 1) c' (by simpa using hj)
      rwa [show o + (j + 1) = o + 1 + j from by omega] at this

theorem repAt_append {E : Env} {w : World} {b o : Nat} {xs ys : List AV} : RepAt E w b o (xs ++ ys) ↔ RepAt E w b o xs ∧ RepAt E w b (o + xs.length) ys := by
  constructor
  · intro h
    refine ⟨fun j c hj => ?_, fun j c hj => ?_⟩
    · exact h j c (by rw [List.getElem?_append_left (List.getElem?_eq_some_iff.1 hj).1]; exact hj)
    · have := h (xs.length + j) c (by rw [List.getElem?_append_right (by omega)]; simpa using hj)
      rwa [← Nat.add_assoc] at this
  · rintro ⟨h1, h2⟩ j c hj
    by_cases hlt : j < xs.length
    · rw [List.getElem?_append_left hlt] at hj; exact h1 j c hj
    · rw [List.getElem?_append_right (by omega)] at hj
      have := h2 (j - xs.length) c hj
      rwa [show o + xs.length + (j - xs.length) = o + j from by omega] at this

theorem repAt_one {E : Env} {w : World} {b o : Nat} {c : AV} : RepAt E w b o [c] ↔ ∃ v, w.cell? ⟨b, o, none⟩ = some v ∧ Rep E w c v := by
  constructor
  · intro h; exact h 0 c rfl
  · intro h j c' hj
    cases j with
    | zero => simp only [List.getElem?_cons_zero, Option.some.injEq] at hj; subst hj; exact h
    | succ j => simp at hj

theorem repRow_iff {E : Env} {w : World} {b : Nat} : ∀ {es : List AV} {o : Nat}, RepRow E w b o es ↔ RepAt E w b o (flat es)
  | [], o => by simp [RepRow, RepAt, flat]
  | e :: es, o => by
    have ih := fun o => repRow_iff (E := E) (w := w) (b := b) (es := es) (o := o)
    have hf : flat (e :: es) = e.cells ++ flat es := by simp [flat]
    rw [hf, repAt_append]
    cases e <;> simp only [RepRow, AV.cells, ih, repCells_iff, repAt_one, List.length_singleton]

theorem RepAt.keep {E E' : Env} {w w' : World} (h : Step E E' w w') {b : Nat} (hb : w'.heap[b]? = w.heap[b]?) {cs : List AV} {o : Nat} (r : RepAt E w b o cs) : RepAt E' w' b o cs :=
  fun j c hj => let ⟨v, hv, hr⟩ := r j c hj; ⟨v, (cell_of_heap hb).trans hv, Rep.keep h c v hr⟩

/-! ### Elements of one size -/

theorem flat_length {k : Nat} : ∀ {es : List AV}, (∀ e ∈ es, e.size = k) → (flat es).length = es.length * k
  | [], _ => by simp [flat]
  | e :: es, h => by
    have ih := flat_length (es := es) (fun x hx => h x (by simp [hx]))
    have he : e.cells.length = k := h e (by simp)
    have hf : flat (e :: es) = e.cells ++ flat es := by simp [flat]
    rw [hf, List.length_append, ih, he, List.length_cons, Nat.add_mul]
    omega

theorem flat_get {k : Nat} : ∀ {es : List AV} {i : Nat} {e : AV} {j : Nat}, (∀ e ∈ es, e.size = k) → es[i]? = some e → j < k → (flat es)[i * k + j]? = e.cells[j]?
  | [], _, _, _, _, h, _ => by simp at h
  | x :: es, 0, e, j, h, he, hj => by
    simp only [List.getElem?_cons_zero, Option.some.injEq] at he
    subst he
    have hx : x.cells.length = k := h x (by simp)
    have hf : flat (x :: es) = x.cells ++ flat es := by simp [flat]
    rw [hf, List.getElem?_append_left (by omega)]
    simp
  | x :: es, i + 1, e, j, h, he, hj => by
    simp only [List.getElem?_cons_succ] at he
    have hx : x.cells.length = k := h x (by simp)
    have hf : flat (x :: es) = x.cells ++ flat es := by simp [flat]
    have ih := flat_get (es := es) (fun x hx => h x (by simp [hx])) he hj
    rw [hf, List.getElem?_append_right (by rw [hx, Nat.add_mul]; omega), hx, ← ih]
    congr 1
    rw [Nat.add_mul]; omega

theorem flat_append (xs ys : List AV) : flat (xs ++ ys) = flat xs ++ flat ys := by simp [flat]

/-- An element of a row is read where it lies. -/
theorem repAt_el {E : Env} {w : World} {b o k : Nat} {es : List AV} {i : Nat} {e : AV} (hk : ∀ e ∈ es, e.size = k) (h : RepAt E w b o (flat es)) (he : es[i]? = some e) :
    RepAt E w b (o + i * k) e.cells := by
  intro j c hj
  have hlt : j < k := by
    have := (List.getElem?_eq_some_iff.1 hj).1
    have h2 : e.cells.length = k := hk e (List.mem_of_getElem? he)
    omega
  have := h (i * k + j) c (by rw [flat_get hk he hlt]; exact hj)
  rwa [← Nat.add_assoc] at this

end Go.VL
