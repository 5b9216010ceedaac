/- The V-layer, part 14: a statement's operations in whatever order is drawn. -/
import Derived.Test.YtcomlgfjnjpebaaGreatDoorVL13
namespace Go.VL

/-! ### What comes before -/

theorem fold_bits (f : Nat → Nat) (b : Nat) : ∀ (l : List Nat) (s : Nat), (l.foldl (fun s i => s ||| 2 ^ i ||| f i) s).testBit b = true → s.testBit b = true ∨ ∃ e ∈ l, b = e ∨ (f e).testBit b = true
  | [], s, h => .inl h
  | i :: l, s, h => by
    simp only [List.foldl_cons] at h
    rcases fold_bits f b l _ h with h | ⟨e, he, h⟩
    · simp only [Nat.testBit_or, Bool.or_eq_true, Nat.testBit_two_pow, decide_eq_true_eq] at h
      rcases h with (h | h) | h
      · exact .inl h
      · exact .inr ⟨i, by simp, .inl h.symm⟩
      · exact .inr ⟨i, by simp, .inr h⟩
    · exact .inr ⟨e, by simp [he], h⟩

theorem masks_len : ∀ (ons : List (List Nat)) (acc : List Nat), (masks ons acc).length = acc.length + ons.length
  | [], acc => by simp [masks]
  | l :: r, acc => by simp only [masks]; rw [masks_len r]; simp; omega

theorem masks_pre : ∀ (ons : List (List Nat)) (acc : List Nat) (k : Nat), k < acc.length → (masks ons acc)[k]? = acc[k]?
  | [], acc, k, _ => by simp [masks]
  | l :: r, acc, k, h => by
    simp only [masks]
    rw [masks_pre r _ k (by simp; omega), List.getElem?_append_left h]

theorem masks_at : ∀ (ons : List (List Nat)) (acc : List Nat) (j : Nat) (l : List Nat), ons[j]? = some l → ∃ acc' : List Nat, acc'.length = acc.length + j ∧ (∀ k, k < acc'.length → (masks ons acc)[k]? = acc'[k]?) ∧
    (masks ons acc)[acc.length + j]? = some (l.foldl (fun s i => s ||| 2 ^ i ||| acc'.getD i 0) 0)
  | [], _, _, _, h => by simp at h
  | l' :: r, acc, 0, l, h => by
    simp only [List.getElem?_cons_zero, Option.some.injEq] at h; subst h
    refine ⟨acc, rfl, fun k hk => masks_pre _ _ k hk, ?_⟩
    simp only [masks]
    rw [masks_pre r _ _ (by simp), List.getElem?_append_right (by omega)]
    simp
  | l' :: r, acc, j + 1, l, h => by
    simp only [masks]
    obtain ⟨acc', h1, h2, h3⟩ := masks_at r (acc ++ [l'.foldl (fun s i => s ||| 2 ^ i ||| acc.getD i 0) 0]) j l (by simpa using h)
    refine ⟨acc', by simp at h1; omega, h2, ?_⟩
    simp only [List.length_append, List.length_singleton] at h3
    rw [show acc.length + (j + 1) = acc.length + 1 + j from by omega]
    exact h3

/-- What is before j is bound by an edge, or before what is bound. -/
theorem mask_edge {ons : List (List Nat)} {j b : Nat} (hlt : ∀ e ∈ ons.getD j [], e < j) (h : ((masks ons []).getD j 0).testBit b = true) : ∃ e ∈ ons.getD j [], b = e ∨ ((masks ons []).getD e 0).testBit b = true := by
  by_cases hj : j < ons.length
  · obtain ⟨acc, h1, h2, h3⟩ := masks_at ons [] j ons[j] (by simp [hj])
    simp only [List.length_nil, Nat.zero_add] at h1 h3
    have hg : (masks ons []).getD j 0 = ons[j].foldl (fun s i => s ||| 2 ^ i ||| acc.getD i 0) 0 := by simp [List.getD, h3]
    rw [hg] at h
    have ho : ons.getD j [] = ons[j] := by simp [List.getD, hj]
    rw [ho] at hlt ⊢
    rcases fold_bits _ b _ _ h with h | ⟨e, he, h⟩
    · simp at h
    · refine ⟨e, he, h.imp id fun h => ?_⟩
      have : (masks ons []).getD e 0 = acc.getD e 0 := by
        simp only [List.getD]
        rw [h2 e (by rw [h1]; exact hlt e he)]
      rw [this]; exact h
  · have : (masks ons []).getD j 0 = 0 := by
      have := masks_len ons []
      simp only [List.getD]
      rw [List.getElem?_eq_none (by simp at this; omega)]
      rfl
    rw [this] at h
    simp at h

theorem mask_closed {ons : List (List Nat)} {X : Nat → Bool} {n : Nat} (hlt : ∀ j, j < n → ∀ e ∈ ons.getD j [], e < j) (hX : ∀ k, k < n → X k = true → ∀ e ∈ ons.getD k [], X e = true) :
    ∀ j, j < n → (∀ e ∈ ons.getD j [], X e = true) → ∀ b, ((masks ons []).getD j 0).testBit b = true → X b = true := by
  intro j
  induction j using Nat.strongRecOn with
  | _ j ih =>
    intro hj he b hb
    obtain ⟨e, he1, h⟩ := mask_edge (hlt j hj) hb
    have hej := hlt j hj e he1
    rcases h with rfl | h
    · exact he b he1
    · exact ih e hej (by omega) (hX e (by omega) (he e he1)) b h

/-! ### Operations on like frames -/

theorem VOp.map_congr {α β : Type} {g h : α → β} : ∀ (op : VOp α), (∀ x ∈ op.args, g x = h x) → op.map g = op.map h := by
  intro op hx
  have hl : ∀ (l : List α), (∀ x ∈ l, x ∈ op.args) → l.map g = l.map h := fun l hl => List.map_congr_left fun x hxl => hx x (hl x hxl)
  have ho : ∀ (l : Option α), (∀ x, l = some x → x ∈ op.args) → l.map g = l.map h := by
    intro l hl; cases l with
    | none => rfl
    | some x => simp [hx x (hl x rfl)]
  cases op <;> simp only [VOp.map, VOp.args] at hx hl ho ⊢
  case build z ps => congr 1; apply List.map_congr_left; intro q hq; rw [hx q.2.2 (List.mem_map.2 ⟨q, hq, rfl⟩)]
  case buildSl k n z ps => congr 1; apply List.map_congr_left; intro q hq; rw [hx q.2 (List.mem_map.2 ⟨q, hq, rfl⟩)]
  case mkfn fn a c => rw [hl a (by simp +contextual), hl c (by simp +contextual)]
  case call f as => rw [hx f (by simp), hl as (by simp +contextual)]
  case slice k x lo hi mx => rw [hx x (by simp), ho lo (by simp +contextual), ho hi (by simp +contextual), ho mx (by simp +contextual)]
  case sliceS x lo hi => rw [hx x (by simp), ho lo (by simp +contextual), ho hi (by simp +contextual)]
  all_goals try simp only [List.mem_cons, List.not_mem_nil, or_false, forall_eq_or_imp, forall_eq] at hx
  all_goals simp only [hx]

theorem ev_congr {G : Nat → Option (List AV)} {t t' : List AV} : ∀ (x : VArg), (∀ s, x.tmp? = some s → t[s]? = t'[s]?) → x.ev G t = x.ev G t'
  | .t n, h => by have := h n rfl; simp [VArg.ev, List.getD, this]
  | .c _, _ => rfl
  | .g _, _ => rfl
  | .f _, _ => rfl

theorem elemsOf_congr {σ σ' : Store} {k : Nat} {x : AV} {ys : List AV} {rd : List Id} (h : elemsOf σ k x = some (ys, rd)) (hr : ∀ id ∈ rd, σ' id = σ id) : elemsOf σ' k x = some (ys, rd) := by
  unfold elemsOf at h ⊢
  split at h
  · exact h
  · exact h
  · exact h
  · rename_i id k' off len t
    skip
    split at h
    · rename_i bk hb
      split at h
      · rename_i hh
        simp only [Option.some.injEq, Prod.mk.injEq] at h
        obtain ⟨rfl, rfl⟩ := h
        have := hr id (by simp)
        rw [this, hb]
        simp [hh]
      · simp at h
    · simp at h
  · simp at h

theorem vover_rd {σ : Store} {id : Id} {off k : Nat} {news : List AV} {v : AV} {rd : List Id} {r : Res} (h : vover σ id off k news v rd = some r) : r.rd = id :: rd := by
  unfold vover at h
  split at h
  · split at h
    · simp only [Option.some.injEq] at h; subst h; rfl
    · simp at h
  · simp at h

theorem vover_congr {σ σ' : Store} {id : Id} {off k : Nat} {news : List AV} {v : AV} {rd : List Id} {r : Res} (h : vover σ id off k news v rd = some r) (hr : ∀ id ∈ r.rd, σ' id = σ id) : vover σ' id off k news v rd = some r := by
  have hrd := vover_rd h
  unfold vover at h ⊢
  rw [hr id (by rw [hrd]; simp)]
  exact h

theorem vop_congr {σ σ' : Store} {p : Id} {op : VOp AV} {r : Res} (h : vop σ p op = some r) (hr : ∀ id ∈ r.rd, σ' id = σ id) : vop σ' p op = some r := by
  cases op with
  | load agg n x =>
    simp only [vop] at h ⊢
    unfold vload at h ⊢
    split at h
    · rename_i id e o
      skip
      cases hb : σ id with
      | none => simp [hb] at h
      | some bk =>
        simp only [hb] at h
        cases he : bk.els[e]? with
        | none => simp [he] at h
        | some el =>
          simp only [he, Option.map_eq_some_iff] at h
          obtain ⟨v, hv, rfl⟩ := h
          rw [hr id (by simp), hb]
          simp [he, hv]
    · exact h
    · simp at h
  | store n x v =>
    simp only [vop] at h ⊢
    unfold vstore at h ⊢
    split at h
    · rename_i id e o
      skip
      cases hb : σ id with
      | none => simp [hb] at h
      | some bk =>
        simp only [hb] at h
        cases he : bk.els[e]? with
        | none => simp [he] at h
        | some el =>
          simp only [he] at h
          split at h
          · rename_i hh
            simp only [Option.some.injEq] at h; subst h
            rw [hr id (by simp), hb]
            simp [he, hh]
          · simp at h
    · simp at h
  | append k bytes s x =>
    simp only [vop] at h ⊢
    unfold vappend at h ⊢
    cases hel : elemsOf σ k x with
    | none => simp [hel] at h
    | some q =>
      obtain ⟨ys, rd⟩ := q
      simp only [hel] at h
      have hsub : ∀ id ∈ rd, id ∈ r.rd := by
        intro id hid
        split at h
        · split at h <;> first | (simp only [Option.some.injEq] at h; subst h; exact hid) | simp at h
        · split at h
          · split at h <;> first | (simp only [Option.some.injEq] at h; subst h; exact hid) | simp at h
          · split at h <;> first | (simp only [Option.some.injEq] at h; subst h; exact hid) | simp at h
          · split at h
            · split at h
              · split at h
                · split at h <;> first | (simp only [Option.some.injEq] at h; subst h; exact List.mem_cons_of_mem _ hid) | (simp at h; done)
                · split at h <;> first | (simp only [Option.some.injEq] at h; subst h; exact List.mem_cons_of_mem _ hid) | (split at h <;> first | (simp only [Option.some.injEq] at h; subst h; exact List.mem_cons_of_mem _ hid) | (simp at h; done))
              · simp at h
            · simp at h
          · simp at h
      rw [elemsOf_congr hel (fun id hid => hr id (hsub id hid))]
      simp only []
      split at h
      · rename_i hemp
        rw [if_pos hemp]; exact h
      · rename_i hemp
        rw [if_neg hemp]
        split at h
        · exact h
        · exact h
        · rename_i id k' off len t
          skip
          cases hb : σ id with
          | none => simp [hb] at h
          | some bk =>
            simp only [hb] at h
            have hid : id ∈ r.rd := by
              split at h
              · split at h
                · split at h <;> first | (simp only [Option.some.injEq] at h; subst h; simp; done) | (simp at h; done)
                · split at h <;> first | (simp only [Option.some.injEq] at h; subst h; simp; done) | (split at h <;> first | (simp only [Option.some.injEq] at h; subst h; simp; done) | (simp at h; done))
              · simp at h
            rw [hr id hid, hb]
            exact h
        · simp at h
  | bytesStr x =>
    simp only [vop] at h ⊢
    unfold vbytesStr at h ⊢
    cases hel : elemsOf σ 1 x with
    | none => simp [hel] at h
    | some q =>
      obtain ⟨ys, rd⟩ := q
      simp only [hel, Option.map_eq_some_iff] at h
      obtain ⟨l, hl, rfl⟩ := h
      rw [elemsOf_congr hel hr]
      simp [hl]
  | slice k x lo hi mx =>
    simp only [vop] at h ⊢
    cases hs : vslice k x lo hi mx with
    | some v => rw [hs] at h; exact h
    | none =>
      rw [hs] at h
      simp only [vsliceR] at h ⊢
      split at h
      · rename_i id k' off len hh
        cases hb : σ id with
        | none => simp [hb] at h
        | some bk =>
          simp only [hb] at h
          split at h
          · rename_i hc
            simp only [Option.map_eq_some_iff] at h
            obtain ⟨v, hv, rfl⟩ := h
            rw [hr id (by simp), hb]
            simp [hc, hv]
          · simp at h
      · exact h
      · simp at h
  | cap x =>
    simp only [vop] at h ⊢
    cases hs : vcap x with
    | some v => rw [hs] at h; exact h
    | none =>
      rw [hs] at h
      simp only [vcapR] at h ⊢
      split at h
      · rename_i id k' off len
        cases hb : σ id with
        | none => simp [hb] at h
        | some bk =>
          simp only [hb] at h
          split at h
          · rename_i hc
            simp only [Option.some.injEq] at h; subst h
            rw [hr id (by simp), hb]
            simp [hc]
          · simp at h
      · simp at h
  | ovl x y =>
    simp only [vop] at h ⊢
    unfold vovl at h ⊢
    split at h
    · rename_i i1 _ _ _ _ i2 _ _ _ _
      split at h
      · simp at h
      · rename_i hne
        cases h1 : σ i1 with
        | none => simp [h1] at h
        | some b1 =>
          cases h2 : σ i2 with
          | none => simp [h1, h2] at h
          | some b2 =>
            simp only [h1, h2] at h
            split at h
            · rename_i hp
              simp only [Option.some.injEq] at h; subst h
              simp only [hr i1 (by simp), hr i2 (by simp), h1, h2]
              rw [if_neg hne, if_pos hp]
            · simp at h
    · simp at h
  | clear k z x =>
    simp only [vop] at h ⊢
    unfold vclear at h ⊢
    split at h
    · exact h
    · rename_i id k' off len tt
      split at h
      · rename_i h0; simp only [h0, if_true]; exact h
      · rename_i h0
        simp only [h0, if_false]
        split at h
        · rename_i hh; rw [if_pos hh]; exact vover_congr h hr
        · simp at h
    · simp at h
  | copy k d x =>
    simp only [vop] at h ⊢
    unfold vcopy at h ⊢
    cases hel : elemsOf σ k x with
    | none => simp [hel] at h
    | some q =>
      obtain ⟨ys, rd⟩ := q
      simp only [hel] at h
      have hsub : ∀ id ∈ rd, id ∈ r.rd := by
        intro id hid
        split at h
        · simp only [Option.some.injEq] at h; subst h; exact hid
        · split at h
          · simp only [Option.some.injEq] at h; subst h; exact hid
          · split at h
            · have := vover_rd h; rw [this]; exact List.mem_cons_of_mem _ hid
            · simp at h
        · simp at h
      rw [elemsOf_congr hel (fun id hid => hr id (hsub id hid))]
      simp only []
      split at h
      · exact h
      · split at h
        · rename_i h0; rw [if_pos h0]; exact h
        · rename_i h0
          rw [if_neg h0]
          split at h
          · rename_i hk; rw [if_pos hk]; exact vover_congr h hr
          · simp at h
      · simp at h
  | _ => exact h

theorem stepRel_congr {P : Program} {G : Nat → Option (List AV)} {σ σ' : Store} {p : Id} {op : VOp AV} {r : Res} (h : stepRel P G σ p op r) (hr : ∀ id ∈ r.rd, σ' id = σ id) : stepRel P G σ' p op r := by
  cases op with
  | call f as =>
    simp only [stepRel] at h ⊢
    split at h
    · obtain ⟨S, h1, h2, h3⟩ := h
      exact ⟨S, h1, fun x hx => by rw [hr _ (h3 x hx)]; exact h2 x hx, h3⟩
    · exact h
  | _ => exact vop_congr h hr

theorem noIds_spec {oc : Option AV} {r : Res} (h : noIds oc = some r) : r.rd = [] ∧ r.up = [] := by
  cases oc with
  | none => simp [noIds] at h
  | some c => simp only [noIds, Option.map_some, Option.some.injEq] at h; subst h; exact ⟨rfl, rfl⟩

/-- An operation that computes only touches no block. -/
theorem pure_spec {P : Program} {G : Nat → Option (List AV)} {σ : Store} {p : Id} {op : VOp VArg} (hp : op.pure = true) {t : List AV} {r : Res} (h : stepRel P G σ p (op.map (VArg.ev G t)) r) : r.rd = [] ∧ r.up = [] := by
  cases op <;> simp only [VOp.pure, Bool.false_eq_true] at hp <;> simp only [VOp.map, stepRel, vop] at h
  all_goals first
    | exact noIds_spec h
    | (simp at h; done)
    | (split at h <;> first | exact noIds_spec h | (simp at h; done) | (split at h <;> first | exact noIds_spec h | (simp at h; done)))

/-- A load writes no block. -/
theorem load_spec {P : Program} {G : Nat → Option (List AV)} {σ : Store} {p : Id} {op : VOp VArg} (hp : op.isLoad = true) {t : List AV} {r : Res} (h : stepRel P G σ p (op.map (VArg.ev G t)) r) : r.up = [] := by
  cases op <;> simp only [VOp.isLoad, Bool.false_eq_true] at hp
  case bytesStr =>
    simp only [VOp.map, stepRel, vop] at h
    unfold vbytesStr at h
    split at h
    · simp only [Option.map_eq_some_iff] at h; obtain ⟨v, _, rfl⟩ := h; rfl
    · simp at h
  case ovl =>
    simp only [VOp.map, stepRel, vop] at h
    unfold vovl at h
    split at h
    · split at h
      · simp at h
      · split at h
        · split at h
          · simp only [Option.some.injEq] at h; subst h; rfl
          · simp at h
        · simp at h
    · simp at h
  case slice =>
    simp only [VOp.map, stepRel, vop] at h
    unfold vsliceR at h
    split at h
    · exact (noIds_spec h).2
    · split at h
      · split at h
        · split at h
          · simp only [Option.map_eq_some_iff] at h; obtain ⟨v, _, rfl⟩ := h; rfl
          · simp at h
        · simp at h
      · split at h
        · split at h
          · split at h
            · simp only [Option.some.injEq] at h; subst h; rfl
            · simp at h
          · simp at h
        · simp at h
      · simp at h
  case cap =>
    simp only [VOp.map, stepRel, vop] at h
    unfold vcapR at h
    split at h
    · exact (noIds_spec h).2
    · split at h
      · split at h
        · split at h
          · simp only [Option.some.injEq] at h; subst h; rfl
          · simp at h
        · simp at h
      · simp at h
  simp only [VOp.map, stepRel, vop] at h
  unfold vload at h
  split at h
  · split at h
    · split at h
      · simp only [Option.map_eq_some_iff] at h; obtain ⟨v, _, rfl⟩ := h; rfl
      · simp at h
    · simp at h
  · simp only [Option.map_eq_some_iff] at h; obtain ⟨v, _, rfl⟩ := h; rfl
  · simp at h

end Go.VL
