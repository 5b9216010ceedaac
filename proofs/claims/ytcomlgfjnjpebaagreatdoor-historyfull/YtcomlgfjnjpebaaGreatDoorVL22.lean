/- The V-layer, part 22: contracts of the kit's form, of functions that only read and answer plain data. -/
import Derived.Test.YtcomlgfjnjpebaaGreatDoorVL21
namespace Go.VL
open Go.RowKit

/-- A call that answers plain data and turns nothing that lay. -/
theorem CallRel.of_below {P : Program} {G : Nat → Option (List AV)} {f : FuncId} {fn : Func} (hf : P.funcs[f]? = some fn) (hname : (fn.name == "runtime.NumGoroutine") = false) (hb : fn.body.isSome = true) {args : List AV} {p : Id} {S : List (Id × Blk)} {val : AV} {rd : List Id}
    (h : ∀ own E w σ vs, (∀ x ∈ S, σ x.1 = some x.2) → Inv G own E w σ → RepL E w args vs → Calls P f vs.toArray w fun e w' => ∃ v, e = .returned v ∧ Below w.heap.size w w' ∧ FlatAV0 val v) :
    CallRel P G f args p S { val, rd } := by
  refine ⟨⟨fn, hf, hname, hb⟩, fun own E w σ vs hS hi hr _ => (h own E w σ vs hS hi hr).mono fun e w' he => ?_⟩
  obtain ⟨v, rfl, hB, hv⟩ := he
  have hadv : Adv own E E w w' := ⟨⟨fun _ _ h => h, fun _ h => h, fun b hb => hB.block b (hi.okb b hb)⟩, hB.os, hB.tape, hB.output, hB.size, fun k hk _ => hB.block k hk, fun _ h => .inl h⟩
  refine ⟨v, E, rfl, hadv, ?_, hv E w', fun _ _ => rfl⟩
  refine hi.keep hadv rfl (fun b hb => Nat.lt_of_lt_of_le (hi.okb b hb) hB.size) fun id bk g N hs hm => ?_
  obtain ⟨g', N', cur, ty, hB2⟩ := hi.blk id bk hs
  rw [hB2.μ] at hm
  simp only [Option.some.injEq, Prod.mk.injEq] at hm
  obtain ⟨rfl, _, rfl⟩ := hm
  exact ⟨hB.block _ (cells_lt hB2.heap), hB2.no⟩

/-- The numbers of a row of integers of one kind. -/
def intsOf (k : IntKind) : List AV → Option (List Int)
  | [] => some []
  | .int k' n :: r => if k' = k then (intsOf k r).map (n :: ·) else none
  | _ :: _ => none

theorem intsOf_spec {k : IntKind} : ∀ {ys : List AV} {zs : List Int}, intsOf k ys = some zs → ys = zs.map (AV.int k)
  | [], zs, h => by simp only [intsOf, Option.some.injEq] at h; subst h; rfl
  | c :: r, zs, h => by
    cases c <;> simp only [intsOf, reduceCtorEq] at h
    split at h
    · rename_i k' n hk
      subst hk
      simp only [Option.map_eq_some_iff] at h
      obtain ⟨zs', h1, rfl⟩ := h
      simp [intsOf_spec h1]
    · simp at h

/-- The blocks that elements are read from. -/
def elemsS (L : LStore) : AV → List (Id × Blk)
  | .osl id _ _ _ _ => match L.find id with
    | some b => [(id, b)]
    | none => []
  | _ => []

theorem elemsS_ok {L : LStore} {x : AV} : ∀ y ∈ elemsS L x, L.to y.1 = some y.2 := by
  intro y hy
  unfold elemsS at hy
  split at hy
  · split at hy
    · rename_i b hb; simp only [List.mem_singleton] at hy; subst hy; exact hb
    · simp at hy
  · simp at hy

theorem elemsS_elems {L : LStore} {x : AV} {k : Nat} {ys : List AV} {rd : List Id} (h : elemsOf L.to k x = some (ys, rd)) {σ : Store} (hS : ∀ y ∈ elemsS L x, σ y.1 = some y.2) : elemsOf σ k x = some (ys, rd) ∧ ∀ y ∈ elemsS L x, y.1 ∈ rd := by
  unfold elemsOf at h
  split at h
  · exact ⟨h, by simp [elemsS]⟩
  · exact ⟨h, by simp [elemsS]⟩
  · exact ⟨h, by simp [elemsS]⟩
  · rename_i id k' off len t
    split at h
    · rename_i bk hb
      have hb' : L.find id = some bk := hb
      have : σ id = some bk := hS (id, bk) (by simp [elemsS, hb'])
      split at h
      · rename_i hh
        simp only [Option.some.injEq, Prod.mk.injEq] at h
        obtain ⟨rfl, rfl⟩ := h
        refine ⟨by unfold elemsOf; simp only [this]; rw [if_pos hh], ?_⟩
        intro y hy
        simp only [elemsS, hb', List.mem_singleton] at hy
        subst hy; simp
      · simp at h
    · simp at h
  · simp at h

/-- A row of integers as it lies in memory. -/
theorem ints_row {G : Nat → Option (List AV)} {own : Nat → Prop} {E : Env} {w : World} {σ : Store} (hi : Inv G own E w σ) {x : AV} {v : Value} (hx : Rep E w x v) {k : IntKind} {zs : List Int} {rd : List Id} (h : elemsOf σ 1 x = some (zs.map (AV.int k), rd)) :
    ∃ a cap, v = .slice a zs.length cap ∧ zs.length ≤ cap ∧ (zs = [] ∨ ∃ b o, a = some ⟨b, o, none⟩ ∧ b < w.heap.size ∧ ∀ j, j < zs.length → w.cell? ⟨b, o + j, none⟩ = some (.int k (zs[j]?.getD 0))) := by
  obtain ⟨_, a, cap, rfl, hle, hr⟩ := elems_rep hi hx h
  refine ⟨a, cap, by simp, by simpa using hle, ?_⟩
  rcases hr with hr | ⟨b, o, rfl, hr⟩
  · left; simpa using hr
  · cases zs with
    | nil => exact .inl rfl
    | cons z zs =>
      right
      have hfl : flat ((z :: zs).map (AV.int k)) = (z :: zs).map (AV.int k) := by
        generalize z :: zs = l
        induction l with
        | nil => rfl
        | cons y l ih => simp only [List.map_cons, flat, List.flatMap_cons, AV.cells] at ih ⊢; rw [ih]; rfl
      rw [hfl] at hr
      have hc : ∀ j, j < (z :: zs).length → w.cell? ⟨b, o + j, none⟩ = some (.int k ((z :: zs)[j]?.getD 0)) := by
        intro j hj
        obtain ⟨v, h1, h2⟩ := hr j (.int k (z :: zs)[j]) (by rw [List.getElem?_map, List.getElem?_eq_getElem hj]; rfl)
        simp only [Rep] at h2
        subst h2
        rw [h1, List.getElem?_eq_getElem hj]; rfl
      refine ⟨b, o, rfl, ?_, hc⟩
      have := hc 0 (by simp)
      cases hh : w.heap[b]? with
      | none => simp [World.cell?, hh] at this
      | some ob => exact (Array.getElem?_eq_some_iff.1 hh).1

end Go.VL
