/- The V-layer, part 2, more: a run of elements is written over. -/
import Derived.Test.YtcomlgfjnjpebaaGreatDoorVL2
namespace Go.VL

theorem flat_take {k : Nat} : ∀ {es : List AV} {n : Nat}, (∀ x ∈ es, x.size = k) → flat (es.take n) = (flat es).take (n * k)
  | [], n, _ => by simp [flat]
  | x :: es, 0, _ => by simp [flat]
  | x :: es, n + 1, h => by
    have hx : x.cells.length = k := h x (by simp)
    have ih := flat_take (es := es) (n := n) (fun y hy => h y (by simp [hy]))
    have hf : flat (x :: es) = x.cells ++ flat es := by simp [flat]
    have hf' : flat ((x :: es).take (n + 1)) = x.cells ++ flat (es.take n) := by simp [flat]
    rw [hf, hf', ih, show (n + 1) * k = x.cells.length + n * k from by rw [hx, Nat.add_mul]; omega, List.take_length_add_append]

theorem flat_drop {k : Nat} : ∀ {es : List AV} {n : Nat}, (∀ x ∈ es, x.size = k) → flat (es.drop n) = (flat es).drop (n * k)
  | [], n, _ => by simp [flat]
  | x :: es, 0, _ => by simp
  | x :: es, n + 1, h => by
    have hx : x.cells.length = k := h x (by simp)
    have ih := flat_drop (es := es) (n := n) (fun y hy => h y (by simp [hy]))
    have hf : flat (x :: es) = x.cells ++ flat es := by simp [flat]
    rw [List.drop_succ_cons, ih, hf, show (n + 1) * k = x.cells.length + n * k from by rw [hx, Nat.add_mul]; omega, List.drop_length_add_append]

/-- The world behind a store of a run of elements from the e-th on. -/
theorem storeEls_ok {G : Nat → Option (List AV)} {own : Nat → Prop} {E : Env} {w : World} {σ : Store} (h : Inv G own E w σ) {id : Id} {bk : Blk} (hσ : σ id = some bk) (hfr : bk.fr = false)
    {g N : Nat} {cur : Array Value} {ty : TypeId} (hB : BlkAt E own w id bk g N cur ty)
    {e : Nat} {news : List AV} {vs : List Value} (hle : e + news.length ≤ bk.els.length) (hk : ∀ x ∈ news, x.size = bk.k) (hv : RepL E w (flat news) vs) :
    e * bk.k + vs.length ≤ cur.size ∧
    Adv own E E w (w.setRow g (cur.toList.take (e * bk.k) ++ vs ++ cur.toList.drop (e * bk.k + vs.length)).toArray) ∧
    Inv G own E (w.setRow g (cur.toList.take (e * bk.k) ++ vs ++ cur.toList.drop (e * bk.k + vs.length)).toArray) (σ.put id (some { bk with els := bk.els.take e ++ news ++ bk.els.drop (e + news.length) })) := by
  obtain ⟨hvl, hvp⟩ := repL_iff.1 hv
  have hfn := flat_length hk
  have hbound : e * bk.k + vs.length ≤ cur.size := by
    rw [hB.size, hvl, hfn, ← Nat.add_mul]
    exact Nat.mul_le_mul_right _ (by have := hB.len; omega)
  refine ⟨hbound, ?_⟩
  generalize hnv : (cur.toList.take (e * bk.k) ++ vs ++ cur.toList.drop (e * bk.k + vs.length)).toArray = nv
  have hg := cells_lt hB.heap
  have hnew : (w.setRow g nv).heap[g]? = some (.cells nv ty (0, 0)) := setRow_heap w g cur nv ty _ hB.heap
  have hs : Step E E w (w.setRow g nv) := ⟨fun _ _ h => h, fun _ h => h, fun b hb => setRow_other w g b nv (fun e => hB.no hfr (e ▸ hb))⟩
  have hadv : Adv own E E w (w.setRow g nv) :=
    ⟨hs, rfl, rfl, rfl, by simp, fun k _ hk => setRow_other w g k nv (fun e => hk (e ▸ hB.own)), fun _ h => .inl h⟩
  refine ⟨hadv, ?_, ?_, ?_, ?_, ?_⟩
  · intro b hb; simpa using h.okb b hb
  · intro i bk' hi
    by_cases hie : i = id
    · subst hie
      rw [Store.put_same] at hi
      simp only [Option.some.injEq] at hi
      subst hi
      have hlen2 : (bk.els.take e ++ news ++ bk.els.drop (e + news.length)).length = bk.els.length := by simp; omega
      have hkall : ∀ x ∈ bk.els.take e ++ news ++ bk.els.drop (e + news.length), x.size = bk.k := by
        intro x hx
        simp only [List.append_assoc, List.mem_append] at hx
        rcases hx with hx | hx | hx
        · exact hB.k x (List.mem_of_mem_take hx)
        · exact hk x hx
        · exact hB.k x (List.mem_of_mem_drop hx)
      refine ⟨g, N, nv, ty, hB.μ, hnew, ?_, by rw [hlen2]; exact hB.len, hB.most, hB.own, by simp [hfr], hB.no, hkall, ?_⟩
      · rw [← hnv]
        simp only [List.size_toArray, List.length_append, List.length_take, List.length_drop, Array.length_toList]
        rw [← hB.size]; omega
      · show RepAt E (w.setRow g nv) g 0 (flat (bk.els.take e ++ news ++ bk.els.drop (e + news.length)))
        rw [flat_append, flat_append, flat_take hB.k, flat_drop hB.k]
        have hlen : (flat bk.els).length = bk.els.length * bk.k := flat_length hB.k
        have hcz : bk.els.length * bk.k ≤ cur.size := by rw [hB.size]; exact Nat.mul_le_mul_right _ hB.len
        have hmul : (e + news.length) * bk.k ≤ bk.els.length * bk.k := Nat.mul_le_mul_right _ hle
        rw [Nat.add_mul] at hmul
        intro j c hj
        have hcell : (w.setRow g nv).cell? ⟨g, 0 + j, none⟩ = nv[j]? := by rw [Nat.zero_add]; exact cell_of_row _ _ _ _ _ _ hnew
        rw [hcell]
        suffices hsuf : ∃ v, nv[j]? = some v ∧ Rep E w c v by
          obtain ⟨v, hv1, hv2⟩ := hsuf; exact ⟨v, hv1, Rep.keep hs c v hv2⟩
        rw [← hnv]
        have hold : ∀ (j : Nat) (c : AV), (flat bk.els)[j]? = some c → ∃ v : Value, cur[j]? = some v ∧ Rep E w c v := by
          intro j c hj
          obtain ⟨v, hv1, hv2⟩ := hB.row j c hj
          rw [Nat.zero_add, cell_of_row _ _ _ _ _ _ hB.heap] at hv1
          exact ⟨v, hv1, hv2⟩
        simp only [List.getElem?_toArray]
        have ha : (cur.toList.take (e * bk.k)).length = e * bk.k := by simp; omega
        have hb : ((flat bk.els).take (e * bk.k)).length = e * bk.k := by simp; omega
        rw [List.append_assoc] at hj ⊢
        by_cases c1 : j < e * bk.k
        · rw [List.getElem?_append_left (by omega), List.getElem?_take_of_lt c1] at hj
          rw [List.getElem?_append_left (by omega), List.getElem?_take_of_lt c1]
          obtain ⟨v, hv1, hv2⟩ := hold j c hj
          exact ⟨v, by simpa using hv1, hv2⟩
        · rw [List.getElem?_append_right (by omega), hb] at hj
          rw [List.getElem?_append_right (by omega), ha]
          by_cases c2 : j - e * bk.k < (flat news).length
          · rw [List.getElem?_append_left c2] at hj
            rw [List.getElem?_append_left (by omega)]
            obtain ⟨v, hv1, hv2⟩ := hvp _ c hj
            exact ⟨v, hv1, hv2⟩
          · rw [List.getElem?_append_right (by omega), List.getElem?_drop] at hj
            rw [List.getElem?_append_right (by omega), List.getElem?_drop, hvl]
            rw [hfn] at hj c2 ⊢
            have e1 : (e + news.length) * bk.k + (j - e * bk.k - news.length * bk.k) = j := by rw [Nat.add_mul]; omega
            have e2 : e * bk.k + news.length * bk.k + (j - e * bk.k - news.length * bk.k) = j := by omega
            rw [e1] at hj; rw [e2]
            obtain ⟨v, hv1, hv2⟩ := hold _ c hj
            exact ⟨v, by simpa using hv1, hv2⟩
    · rw [Store.put_other _ _ _ hie] at hi
      obtain ⟨g', N', cur', ty', hB'⟩ := h.blk i bk' hi
      have hne : g' ≠ g := h.inj i id _ _ (by simp [hi]) (by simp [hσ]) hie hB'.μ hB.μ
      exact ⟨g', N', cur', ty', hB'.keep hs (setRow_other w g g' nv hne) hB'.no⟩
  · intro i j x y hi hj hne hx hy
    refine h.inj i j x y ?_ ?_ hne hx hy
    · intro hn; by_cases hie : i = id
      · subst hie; simp [hσ] at hn
      · rw [Store.put_other _ _ _ hie] at hi; exact hi hn
    · intro hn; by_cases hie : j = id
      · subst hie; simp [hσ] at hn
      · rw [Store.put_other _ _ _ hie] at hj; exact hj hn
  · intro g' cs hg'
    obtain ⟨h1', h2'⟩ := h.glob g' cs hg'
    exact ⟨h1', RepCells.keep hs.bare (hs.same g' h1') cs 0 h2'⟩
  · intro k hk; simp at hk; exact h.new k hk

end Go.VL
