/- For the claim of HistoryNeeds: parts VL9, VL2S, VL10, VL11, VL12, VL13, VL14. -/
import Derived.Test.YtcomlgfjnjpebaaGreatDoorC01
import Derived.Lib.AppendZeros
import Derived.Laws.BytesArg
import Derived.Laws.Externs
import Derived.Lib.Bytealg
import Derived.Lib.Overlaps
import Derived.Orders
set_option linter.unusedSimpArgs false
set_option linter.unusedVariables false
section
namespace Go.VL
section
variable {P : Program} {G : Nat → Option (List AV)} {own : Nat → Prop} {E : Env} {w : World} {σ : Store} {p : Id}
theorem vbounds_spec {len l r : Nat} {lo hi : Option AV} (hb : vbounds len lo hi = some (l, r)) : vbound len len hi = some r ∧ vbound 0 r lo = some l := by
  unfold vbounds at hb
  split at hb
  · simp at hb
  · rename_i h1 e1
    split at hb
    · simp at hb
    · rename_i l1 e2
      simp only [Option.some.injEq, Prod.mk.injEq] at hb
      obtain ⟨rfl, rfl⟩ := hb
      exact ⟨e1, e2⟩
theorem extract_bytes (s : List UInt8) (l r : Nat) : (ByteArray.mk s.toArray).extract l r = ⟨((s.take r).drop l).toArray⟩ := by
  apply ByteArray.ext
  rw [ByteArray.data_extract]
  apply Array.ext'
  simp [List.extract_eq_take_drop, List.drop_take]
theorem vsliceS_sound (hi : Inv G own E w σ) {t : TypeId} (hu : P.underlying t = some .string) {x : AV} {v : Value} (hx : Rep E w x v)
    {lo hi' : Option AV} {vlo vhi : Option Value} (hlo : OptRep E w lo vlo) (hhi : OptRep E w hi' vhi) {c : AV} (h : vsliceS x lo hi' = some c) : Sound P G own E w σ p (Instr.sliceAt t v vlo vhi none) { val := c } := by
  unfold vsliceS at h
  split at h
  · rename_i s
    simp only [Rep] at hx; subst hx
    split at h
    · rename_i l r hb
      obtain ⟨hbh, hbl⟩ := vbounds_spec hb
      simp only [Option.some.injEq] at h; subst h
      obtain ⟨hb1, hb2, hb3⟩ := bounds_run (P := P) (isSlice := false) (mx := none) (vmx := none) (m := s.length) hlo hhi trivial (Nat.le_refl _) hbh hbl (.inl ⟨rfl, rfl⟩)
      refine Sound.same (v := .string ⟨((s.take r).drop l).toArray⟩) hi ?_ (by simp [Rep])
      have hsz : (ByteArray.mk s.toArray).size = s.length := by simp [ByteArray.size]
      simp [Instr.sliceAt, Instr.slice, run_underlying hu, hsz, hb1, extract_bytes]
    · simp at h
  · simp at h
theorem repEl_of_row {b o k : Nat} {es : List AV} (hk : ∀ e ∈ es, e.size = k) (h : RepRow E w b o es) {i : Nat} {e : AV} (he : es[i]? = some e) : RepCells E w b (o + i * k) e.cells :=
  repCells_iff.2 (repAt_el hk (repRow_iff.1 h) he)
theorem iaddrS_sound (hi : Inv G own E w σ) {t e : TypeId} {i : TypeInfo} (hu : P.underlying t = some (.slice e)) (hie : P.info? e = some i) {x j : AV} {v u : Value} (hx : Rep E w x v) (hj : Rep E w j u) {c : AV}
    (h : viaddrS i.size x j = some c) : Sound P G own E w σ p (Instr.indexAt t v u) { val := c } := by
  have hrun : ∀ (a : Addr) (len cap : Nat) (k : IntKind) (n : Int), 0 ≤ n → n < len → (Instr.indexAt t (.slice (some a) len cap) (.int k n)).run P w = .ok (.pointer (some (a.add (n.toNat * i.size)))) w := by
    intro a len cap k n h0 h1
    simp [Instr.indexAt, run_underlying hu, asIntOf, h0, h1, sizeOf_run hie]
  unfold viaddrS at h
  split at h
  · rename_i kk n
    simp only [Rep] at hj; subst hj
    have row : ∀ {es : List AV} {a : Option Addr} {cap : Nat}, (∀ e ∈ es, e.size = i.size) → (es = [] ∨ ∃ b o, a = some ⟨b, o, none⟩ ∧ E.ok b ∧ RepRow E w b o es) → 0 ≤ n →
        (es[n.toNat]?).map (fun e => AV.ep e.cells 0) = some c → Sound P G own E w σ p (Instr.indexAt t (.slice a es.length cap) (.int kk n)) { val := c } := by
      intro es a cap hk hrow h0 h
      simp only [Option.map_eq_some_iff] at h
      obtain ⟨el, hel, rfl⟩ := h
      have hlt : n.toNat < es.length := (List.getElem?_eq_some_iff.1 hel).1
      rcases hrow with rfl | ⟨b, o, rfl, hb, hr⟩
      · simp at hlt
      · refine Sound.same hi (hrun _ _ cap kk n h0 (by omega)) ?_
        rw [Addr.add_lit]
        simp only [Rep]
        exact ⟨b, o + n.toNat * i.size, by simp, hb, repEl_of_row hk hr hel⟩
    split at h
    · rename_i k' es
      simp only [Rep] at hx
      obtain ⟨a, cap, rfl, _, _, hk, hrow⟩ := hx
      split at h
      · rename_i hh
        obtain ⟨rfl, h0⟩ := hh
        exact row hk hrow h0 h
      · simp at h
    · rename_i k' es
      simp only [Rep] at hx
      obtain ⟨a, rfl, _, hk, hrow⟩ := hx
      split at h
      · rename_i hh
        obtain ⟨rfl, h0⟩ := hh
        exact row hk hrow h0 h
      · simp at h
    · rename_i id k' off len tt
      simp only [Rep] at hx
      obtain ⟨g, N, cap, hm, rfl, _⟩ := hx
      split at h
      · rename_i hh
        obtain ⟨rfl, h0, h1⟩ := hh
        simp only [Option.some.injEq] at h; subst h
        refine Sound.same hi (hrun _ _ cap kk n h0 h1) ?_
        rw [Addr.add_lit]
        simp only [Rep]
        exact ⟨g, i.size, N, hm, by simp [Nat.add_mul]⟩
      · simp at h
    · simp at h
  · simp at h
theorem iaddrA_sound (hi : Inv G own E w σ) {t e : TypeId} {n : Nat} {i : TypeInfo} (hu : P.underlying t = some (.array n e)) (hie : P.info? e = some i) {x j : AV} {v u : Value} (hx : Rep E w x v) (hj : Rep E w j u) {c : AV}
    (h : viaddrA n i.size x j = some c) : Sound P G own E w σ p (Instr.indexAt t v u) { val := c } := by
  unfold viaddrA at h
  split at h
  · rename_i kk m
    simp only [Rep] at hj; subst hj
    split at h
    · rename_i hh
      have hrun : ∀ a : Addr, (Instr.indexAt t (.pointer (some a)) (.int kk m)).run P w = .ok (.pointer (some (a.add (m.toNat * i.size)))) w := by
        intro a
        simp [Instr.indexAt, run_underlying hu, asIntOf, hh, sizeOf_run hie, Instr.sureAddr]
      split at h
      · simp only [Option.some.injEq] at h; subst h
        simp only [Rep] at hx
        obtain ⟨g, k, N, hm, rfl⟩ := hx
        refine Sound.same hi (hrun _) ?_
        rw [Addr.add_lit]
        simp only [Rep]
        exact ⟨g, k, N, hm, by simp [Nat.add_assoc]⟩
      · simp only [Option.some.injEq] at h; subst h
        simp only [Rep] at hx
        obtain ⟨b, q, rfl, hb, hr⟩ := hx
        refine Sound.same hi (hrun _) ?_
        rw [Addr.add_lit]
        simp only [Rep]
        exact ⟨b, q, by simp [Nat.add_assoc], hb, hr⟩
      · simp at h
    · simp at h
  · simp at h
theorem faddr_sound (hi : Inv G own E w σ) {s : TypeId} {fs : Array Field} {f : Nat} {fd : Field} {i : TypeInfo} (hu : P.underlying s = some (.struct fs)) (hf : fs[f]? = some fd) (hie : P.info? fd.type = some i) (h0 : i.size ≠ 0)
    {x : AV} {v : Value} (hx : Rep E w x v) {r : Res} (h : vop σ p (.faddr fd.offset x) = some r) : Sound P G own E w σ p (Instr.fieldAt s v f) r := by
  have hrun : ∀ a : Addr, (Instr.fieldAt s (.pointer (some a)) f).run P w = .ok (.pointer (some (a.add fd.offset))) w := by
    intro a
    simp [Instr.fieldAt, run_underlying hu, hf, Instr.sureAddr, fieldPlace, sizeOf_run hie, h0]
  simp only [vop] at h
  split at h
  · simp only [noIds, Option.map_some, Option.some.injEq] at h; subst h
    simp only [Rep] at hx
    obtain ⟨g, k, N, hm, rfl⟩ := hx
    refine Sound.same hi (hrun _) ?_
    rw [Addr.add_lit]
    simp only [Rep]
    exact ⟨g, k, N, hm, by simp [Nat.add_assoc]⟩
  · simp only [noIds, Option.map_some, Option.some.injEq] at h; subst h
    simp only [Rep] at hx
    obtain ⟨b, q, rfl, hb, hr⟩ := hx
    refine Sound.same hi (hrun _) ?_
    rw [Addr.add_lit]
    simp only [Rep]
    exact ⟨b, q, by simp [Nat.add_assoc], hb, hr⟩
  · simp at h
theorem part_run {t : TypeId} {agg : Bool} {i : TypeInfo} (ha : isAggT P t = some agg) (hie : P.info? t = some i) {cs : List AV} {xs : Array Value} (hr : RepL E w cs xs.toList) {o : Nat} {c : AV} (h : VL.part agg cs o i.size = some c) :
    ∃ v, (Go.part t xs o).run P w = .ok v w ∧ Rep E w c v := by
  obtain ⟨h1, h2, h3⟩ := part_rep h hr
  refine ⟨_, ?_, h1⟩
  cases agg with
  | true => simp [Go.part, isAggT_run ha, sizeOf_run hie]
  | false =>
    have h1' := h3 rfl
    have : o < xs.size := by omega
    simp [Go.part, isAggT_run ha, this]
theorem elems_rep (hi : Inv G own E w σ) {k : Nat} {x : AV} {v : Value} (hx : Rep E w x v) {ys : List AV} {rd : List Id} (h : elemsOf σ k x = some (ys, rd)) :
    (∀ e ∈ ys, e.size = k) ∧ ∃ a cap, v = .slice a ys.length cap ∧ ys.length ≤ cap ∧ (ys = [] ∨ ∃ b o, a = some ⟨b, o, none⟩ ∧ RepAt E w b o (flat ys)) := by
  unfold elemsOf at h
  split at h
  · simp only [Option.some.injEq, Prod.mk.injEq] at h
    obtain ⟨rfl, rfl⟩ := h
    simp only [Rep] at hx; subst hx
    exact ⟨by simp, none, 0, rfl, Nat.le_refl _, .inl rfl⟩
  · rename_i k' es
    split at h
    · rename_i hk
      simp only [Option.some.injEq, Prod.mk.injEq] at h
      obtain ⟨rfl, rfl⟩ := h
      subst hk
      simp only [Rep] at hx
      obtain ⟨a, cap, rfl, hl, _, hk, hrow⟩ := hx
      exact ⟨hk, a, cap, rfl, hl, hrow.imp id fun ⟨b, o, e, _, r⟩ => ⟨b, o, e, repRow_iff.1 r⟩⟩
    · simp at h
  · rename_i k' es
    split at h
    · rename_i hk
      simp only [Option.some.injEq, Prod.mk.injEq] at h
      obtain ⟨rfl, rfl⟩ := h
      subst hk
      simp only [Rep] at hx
      obtain ⟨a, rfl, _, hk, hrow⟩ := hx
      exact ⟨hk, a, _, rfl, Nat.le_refl _, hrow.imp id fun ⟨b, o, e, _, r⟩ => ⟨b, o, e, repRow_iff.1 r⟩⟩
    · simp at h
  · rename_i id k' off len tt
    split at h
    · rename_i bk hσ
      split at h
      · rename_i hh
        obtain ⟨rfl, hbk, hle⟩ := hh
        simp only [Option.some.injEq, Prod.mk.injEq] at h
        obtain ⟨rfl, rfl⟩ := h
        obtain ⟨g, N, cur, ty, hB⟩ := hi.blk id bk hσ
        simp only [Rep] at hx
        obtain ⟨g', N', cap, hm, rfl, hlc, _⟩ := hx
        rw [hB.μ] at hm
        simp only [Option.some.injEq, Prod.mk.injEq] at hm
        obtain ⟨rfl, _, rfl⟩ := hm
        have hkk : ∀ e ∈ (bk.els.drop off).take len, e.size = k' := fun e he => by rw [← hbk]; exact hB.k e (List.mem_of_mem_drop (List.mem_of_mem_take he))
        have hlen : ((bk.els.drop off).take len).length = len := by simp; omega
        refine ⟨hkk, some ⟨g, off * k', none⟩, cap, by rw [hlen], by omega, .inr ⟨g, off * k', rfl, ?_⟩⟩
        have := repAt_sub (l := off) (r := off + len) hB.k hB.row (by omega) hle
        rw [Nat.zero_add, hbk] at this
        have e : (bk.els.take (off + len)).drop off = (bk.els.drop off).take len := by rw [List.drop_take]; congr 1; omega
        rwa [e] at this
      · simp at h
    · simp at h
  · simp at h
theorem vals_of {b o : Nat} {cs : List AV} (h : RepAt E w b o cs) : ∃ vs : List Value, RepL E w cs vs ∧ ∀ j v, vs[j]? = some v → w.cell? ((⟨b, o, none⟩ : Addr).add j) = some v := by
  refine ⟨(List.range cs.length).map fun j => (w.cell? ⟨b, o + j, none⟩).getD undef, repL_iff.2 ⟨by simp, fun j c hj => ?_⟩, fun j v hj => ?_⟩
  · obtain ⟨v, hv, hr⟩ := h j c hj
    have hlt : j < cs.length := (List.getElem?_eq_some_iff.1 hj).1
    exact ⟨v, by simp [hlt, hv], hr⟩
  · have hlt : j < cs.length := by have := (List.getElem?_eq_some_iff.1 hj).1; simpa using this
    obtain ⟨v', hv', _⟩ := h j cs[j] (by simp [hlt])
    simp only [List.getElem?_map, hlt, List.getElem?_range, Option.map_some, Option.some.injEq] at hj
    rw [Addr.add_lit, hv', ← hj, hv']
    rfl
theorem one_vals {cs : List AV} {vs : List Value} (h : RepL E w cs vs) (h1 : ∀ c ∈ cs, c.one = true) : ∀ v ∈ vs, v.oneCell' = true := by
  intro v hv
  obtain ⟨j, hj⟩ := List.mem_iff_getElem?.1 hv
  obtain ⟨hl, hp⟩ := repL_iff.1 h
  have hjl : j < cs.length := by have := (List.getElem?_eq_some_iff.1 hj).1; omega
  obtain ⟨u, hu, hru⟩ := hp j cs[j] (by simp [hjl])
  have : u = v := by rw [hj] at hu; simpa using hu.symm
  subst this
  exact Rep.one hru (h1 _ (by simp))
theorem fresh_ok (hi : Inv G own E w σ) (hμ : E.μ p = none) (hσ : σ p = none) {k n N : Nat} {els : List AV} (hk : ∀ e ∈ els, e.size = k) (hn : els.length = n) {vs : List Value} (hv : RepL E w (flat els) vs)
    {rest : Array Value} (hr : rest.size = (N - n) * k) (hnN : n ≤ N) (hN : N ≤ maxLen) (ty : TypeId) {rd : List Id} :
    OpPost G own E w σ p { val := .osl p k 0 n false, rd := rd, up := [(p, some ⟨els, k, false⟩)] } (.slice (some ⟨w.heap.size, 0, none⟩) n N) (E.bind p w.heap.size k N) (w.drew.alloc (.cells (vs.toArray ++ rest) ty)) := by
  have hd := hi.drew
  obtain ⟨hl, hp⟩ := repL_iff.1 hv
  have hfl := flat_length hk
  have hstep : Step E E w w.drew := (Adv.drew (own := own) E w).step
  have hlen : (vs ++ rest.toList).length = N * k := by
    simp only [List.length_append, Array.length_toList, hl, hfl, hn, hr, ← Nat.add_mul]
    congr 1; omega
  have := new_sound (p := p) (rd := rd) hd hμ hσ (els := els) (k := k) (N := N) (vs := vs ++ rest.toList) ty hk
    (fun j c hj => by
      obtain ⟨v, hv1, hv2⟩ := hp j c hj
      exact ⟨v, by rw [List.getElem?_append_left (List.getElem?_eq_some_iff.1 hv1).1]; exact hv1, Rep.keep hstep c v hv2⟩) hlen (by omega) hN
    (c := .osl p k 0 n false) (v := .slice (some ⟨w.heap.size, 0, none⟩) n N)
    (by simp only [Rep]; exact ⟨w.heap.size, N, N, Env.bind_same _ _ _ _ _, by simp, hnN, by omega, hN, by simp⟩)
  have he : (vs ++ rest.toList).toArray = vs.toArray ++ rest := by apply Array.ext'; simp
  rw [he] at this
  exact ⟨(Adv.drew E w).trans this.adv, this.inv, this.rep, this.ids⟩
theorem dead_ok (hi : Inv G own E w σ) (id : Id) : Inv G own E w (σ.put id none) where
  okb := hi.okb
  blk := fun i bk h => by
    by_cases e : i = id
    · subst e; simp [Store.put] at h
    · rw [Store.put_other _ _ _ e] at h; exact hi.blk i bk h
  inj := fun i j x y hx hy hne h1 h2 => by
    have ei : i ≠ id := by rintro rfl; simp [Store.put] at hx
    have ej : j ≠ id := by rintro rfl; simp [Store.put] at hy
    rw [Store.put_other _ _ _ ei] at hx
    rw [Store.put_other _ _ _ ej] at hy
    exact hi.inj i j x y hx hy hne h1 h2
  glob := hi.glob
  new := hi.new
end
end Go.VL
end

section
namespace Go.VL
theorem flat_take {k : Nat} : ∀ {es : List AV} {n : Nat}, (∀ x ∈ es, x.size = k) → flat (es.take n) = (flat es).take (n * k)
  | [], n, _ => by simp [flat]
  | x :: es, 0, _ => by simp [flat]
  | x :: es, n + 1, h => by
    have hx : x.cells.length = k := h x (by simp)
    have ih := flat_take (es := es) (n := n) (fun y hy => h y (by simp [hy]))
    have hf : flat (x :: es) = x.cells ++ flat es := by simp [flat]
    have hf' : flat ((x :: es).take (n + 1)) = x.cells ++ flat (es.take n) := by simp [flat]
    rw [hf, hf', ih, show (n + 1) * k = x.cells.length + n * k from by rw [hx, Nat.add_mul]; omega, List.take_length_add_append]
theorem flat_drop {k : Nat} : ∀ {es : List AV} {n : Nat}, (∀ x ∈ es, x.size = k) → flat (es.drop n) = (flat es).drop (n * k)
  | [], n, _ => by simp [flat]
  | x :: es, 0, _ => by simp
  | x :: es, n + 1, h => by
    have hx : x.cells.length = k := h x (by simp)
    have ih := flat_drop (es := es) (n := n) (fun y hy => h y (by simp [hy]))
    have hf : flat (x :: es) = x.cells ++ flat es := by simp [flat]
    rw [List.drop_succ_cons, ih, hf, show (n + 1) * k = x.cells.length + n * k from by rw [hx, Nat.add_mul]; omega, List.drop_length_add_append]
theorem storeEls_ok {G : Nat → Option (List AV)} {own : Nat → Prop} {E : Env} {w : World} {σ : Store} (h : Inv G own E w σ) {id : Id} {bk : Blk} (hσ : σ id = some bk) (hfr : bk.fr = false)
    {g N : Nat} {cur : Array Value} {ty : TypeId} (hB : BlkAt E own w id bk g N cur ty)
    {e : Nat} {news : List AV} {vs : List Value} (hle : e + news.length ≤ bk.els.length) (hk : ∀ x ∈ news, x.size = bk.k) (hv : RepL E w (flat news) vs) :
    e * bk.k + vs.length ≤ cur.size ∧
    Adv own E E w (w.setRow g (cur.toList.take (e * bk.k) ++ vs ++ cur.toList.drop (e * bk.k + vs.length)).toArray) ∧
    Inv G own E (w.setRow g (cur.toList.take (e * bk.k) ++ vs ++ cur.toList.drop (e * bk.k + vs.length)).toArray) (σ.put id (some { bk with els := bk.els.take e ++ news ++ bk.els.drop (e + news.length) })) := by
  obtain ⟨hvl, hvp⟩ := repL_iff.1 hv
  have hfn := flat_length hk
  have hbound : e * bk.k + vs.length ≤ cur.size := by
    rw [hB.size, hvl, hfn, ← Nat.add_mul]
    exact Nat.mul_le_mul_right _ (by have := hB.len; omega)
  refine ⟨hbound, ?_⟩
  generalize hnv : (cur.toList.take (e * bk.k) ++ vs ++ cur.toList.drop (e * bk.k + vs.length)).toArray = nv
  have hg := cells_lt hB.heap
  have hnew : (w.setRow g nv).heap[g]? = some (.cells nv ty (0, 0)) := setRow_heap w g cur nv ty _ hB.heap
  have hs : Step E E w (w.setRow g nv) := ⟨fun _ _ h => h, fun _ h => h, fun b hb => setRow_other w g b nv (fun e => hB.no hfr (e ▸ hb))⟩
  have hadv : Adv own E E w (w.setRow g nv) :=
    ⟨hs, rfl, rfl, rfl, by simp, fun k _ hk => setRow_other w g k nv (fun e => hk (e ▸ hB.own)), fun _ h => .inl h⟩
  refine ⟨hadv, ?_, ?_, ?_, ?_, ?_⟩
  · intro b hb; simpa using h.okb b hb
  · intro i bk' hi
    by_cases hie : i = id
    · subst hie
      rw [Store.put_same] at hi
      simp only [Option.some.injEq] at hi
      subst hi
      have hlen2 : (bk.els.take e ++ news ++ bk.els.drop (e + news.length)).length = bk.els.length := by simp; omega
      have hkall : ∀ x ∈ bk.els.take e ++ news ++ bk.els.drop (e + news.length), x.size = bk.k := by
        intro x hx
        simp only [List.append_assoc, List.mem_append] at hx
        rcases hx with hx | hx | hx
        · exact hB.k x (List.mem_of_mem_take hx)
        · exact hk x hx
        · exact hB.k x (List.mem_of_mem_drop hx)
      refine ⟨g, N, nv, ty, hB.μ, hnew, ?_, by rw [hlen2]; exact hB.len, hB.most, hB.own, by simp [hfr], hB.no, hkall, ?_⟩
      · rw [← hnv]
        simp only [List.size_toArray, List.length_append, List.length_take, List.length_drop, Array.length_toList]
        rw [← hB.size]; omega
      · show RepAt E (w.setRow g nv) g 0 (flat (bk.els.take e ++ news ++ bk.els.drop (e + news.length)))
        rw [flat_append, flat_append, flat_take hB.k, flat_drop hB.k]
        have hlen : (flat bk.els).length = bk.els.length * bk.k := flat_length hB.k
        have hcz : bk.els.length * bk.k ≤ cur.size := by rw [hB.size]; exact Nat.mul_le_mul_right _ hB.len
        have hmul : (e + news.length) * bk.k ≤ bk.els.length * bk.k := Nat.mul_le_mul_right _ hle
        rw [Nat.add_mul] at hmul
        intro j c hj
        have hcell : (w.setRow g nv).cell? ⟨g, 0 + j, none⟩ = nv[j]? := by rw [Nat.zero_add]; exact cell_of_row _ _ _ _ _ _ hnew
        rw [hcell]
        suffices hsuf : ∃ v, nv[j]? = some v ∧ Rep E w c v by
          obtain ⟨v, hv1, hv2⟩ := hsuf; exact ⟨v, hv1, Rep.keep hs c v hv2⟩
        rw [← hnv]
        have hold : ∀ (j : Nat) (c : AV), (flat bk.els)[j]? = some c → ∃ v : Value, cur[j]? = some v ∧ Rep E w c v := by
          intro j c hj
          obtain ⟨v, hv1, hv2⟩ := hB.row j c hj
          rw [Nat.zero_add, cell_of_row _ _ _ _ _ _ hB.heap] at hv1
          exact ⟨v, hv1, hv2⟩
        simp only [List.getElem?_toArray]
        have ha : (cur.toList.take (e * bk.k)).length = e * bk.k := by simp; omega
        have hb : ((flat bk.els).take (e * bk.k)).length = e * bk.k := by simp; omega
        rw [List.append_assoc] at hj ⊢
        by_cases c1 : j < e * bk.k
        · rw [List.getElem?_append_left (by omega), List.getElem?_take_of_lt c1] at hj
          rw [List.getElem?_append_left (by omega), List.getElem?_take_of_lt c1]
          obtain ⟨v, hv1, hv2⟩ := hold j c hj
          exact ⟨v, by simpa using hv1, hv2⟩
        · rw [List.getElem?_append_right (by omega), hb] at hj
          rw [List.getElem?_append_right (by omega), ha]
          by_cases c2 : j - e * bk.k < (flat news).length
          · rw [List.getElem?_append_left c2] at hj
            rw [List.getElem?_append_left (by omega)]
            obtain ⟨v, hv1, hv2⟩ := hvp _ c hj
            exact ⟨v, hv1, hv2⟩
          · rw [List.getElem?_append_right (by omega), List.getElem?_drop] at hj
            rw [List.getElem?_append_right (by omega), List.getElem?_drop, hvl]
            rw [hfn] at hj c2 ⊢
            have e1 : (e + news.length) * bk.k + (j - e * bk.k - news.length * bk.k) = j := by rw [Nat.add_mul]; omega
            have e2 : e * bk.k + news.length * bk.k + (j - e * bk.k - news.length * bk.k) = j := by omega
            rw [e1] at hj; rw [e2]
            obtain ⟨v, hv1, hv2⟩ := hold _ c hj
            exact ⟨v, by simpa using hv1, hv2⟩
    · rw [Store.put_other _ _ _ hie] at hi
      obtain ⟨g', N', cur', ty', hB'⟩ := h.blk i bk' hi
      have hne : g' ≠ g := h.inj i id _ _ (by simp [hi]) (by simp [hσ]) hie hB'.μ hB.μ
      exact ⟨g', N', cur', ty', hB'.keep hs (setRow_other w g g' nv hne) hB'.no⟩
  · intro i j x y hi hj hne hx hy
    refine h.inj i j x y ?_ ?_ hne hx hy
    · intro hn; by_cases hie : i = id
      · subst hie; simp [hσ] at hn
      · rw [Store.put_other _ _ _ hie] at hi; exact hi hn
    · intro hn; by_cases hie : j = id
      · subst hie; simp [hσ] at hn
      · rw [Store.put_other _ _ _ hie] at hj; exact hj hn
  · intro g' cs hg'
    obtain ⟨h1', h2'⟩ := h.glob g' cs hg'
    exact ⟨h1', RepCells.keep hs.bare (hs.same g' h1') cs 0 h2'⟩
  · intro k hk; simp at hk; exact h.new k hk
end Go.VL
end

section
namespace Go.VL
section
variable {P : Program} {G : Nat → Option (List AV)} {own : Nat → Prop} {E : Env} {w : World} {σ : Store} {p : Id}
theorem room_ok (hi : Inv G own E w σ) (hμ : E.μ p = none) (hσ : σ p = none) {id : Id} {bk : Blk} (hid : σ id = some bk) (hfr : bk.fr = false) {g N : Nat} {cur : Array Value} {ty : TypeId} (hB : BlkAt E own w id bk g N cur ty)
    {ys : List AV} (hk : ∀ e ∈ ys, e.size = bk.k) {news : List Value} (hv : RepL E w (flat ys) news) (hfit : bk.els.length + ys.length ≤ N) {rd : List Id} :
    OpPost G own E w σ p { val := .osl p bk.k 0 (bk.els.length + ys.length) false, rd := rd, up := [(id, none), (p, some ⟨bk.els ++ ys, bk.k, false⟩)] }
      (.slice (some ⟨g, 0, none⟩) (bk.els.length + ys.length) N) (E.bind p g bk.k N)
      (w.setRow g (cur.toList.take (bk.els.length * bk.k) ++ news ++ cur.toList.drop (bk.els.length * bk.k + news.length)).toArray) := by
  obtain ⟨hvl, hvp⟩ := repL_iff.1 hv
  have hy := flat_length hk
  have he := flat_length hB.k
  have hle : bk.els.length * bk.k + news.length ≤ cur.size := by
    rw [hvl, hy, hB.size, ← Nat.add_mul]; exact Nat.mul_le_mul_right _ hfit
  generalize hnv : (cur.toList.take (bk.els.length * bk.k) ++ news ++ cur.toList.drop (bk.els.length * bk.k + news.length)).toArray = nv
  have hnew : (w.setRow g nv).heap[g]? = some (.cells nv ty (0, 0)) := setRow_heap w g cur nv ty _ hB.heap
  have hne0 : id ≠ p := by rintro rfl; simp [hid] at hσ
  have hs : Step E (E.bind p g bk.k N) w (w.setRow g nv) :=
    ⟨fun i x h => by rw [Env.bind_other]; exact h; rintro rfl; simp [hμ] at h, fun _ h => h, fun b hb => setRow_other w g b nv (fun e => hB.no hfr (e ▸ hb))⟩
  have hadv : Adv own E (E.bind p g bk.k N) w (w.setRow g nv) :=
    ⟨hs, rfl, rfl, rfl, by simp, fun k _ hk => setRow_other w g k nv (fun e => hk (e ▸ hB.own)), fun _ h => .inl h⟩
  have hsz : nv.size = cur.size := by
    rw [← hnv]
    simp only [List.size_toArray, List.length_append, List.length_take, List.length_drop, Array.length_toList]
    omega
  refine ⟨hadv, ⟨?_, ?_, ?_, ?_, ?_⟩, ?_, fun i hne => Env.bind_other _ _ _ _ _ (fun e => hne (by rw [e]; exact List.suffix_refl _))⟩
  · intro b hb; simpa using hi.okb b hb
  · intro i bk' h
    simp only [Store.app] at h
    by_cases e1 : i = p
    · subst e1
      rw [Store.put_same] at h
      simp only [Option.some.injEq] at h; subst h
      refine ⟨g, N, nv, ty, Env.bind_same _ _ _ _ _, hnew, by rw [hsz]; exact hB.size, by simpa using hfit, hB.most, hB.own, by simp, fun _ hb => hB.no hfr hb, ?_, ?_⟩
      · intro e he
        rcases List.mem_append.1 he with h | h
        · exact hB.k e h
        · exact hk e h
      · show RepAt _ _ g 0 (flat (bk.els ++ ys))
        rw [flat_append]
        have hcell : ∀ j, (w.setRow g nv).cell? ⟨g, j, none⟩ = nv[j]? := fun j => cell_of_row _ _ _ _ _ _ hnew
        have ht : (cur.toList.take (bk.els.length * bk.k)).length = bk.els.length * bk.k := by simp; omega
        refine repAt_append.2 ⟨fun j c hj => ?_, fun j c hj => ?_⟩
        · have hjl : j < bk.els.length * bk.k := by rw [← he]; exact (List.getElem?_eq_some_iff.1 hj).1
          obtain ⟨v, hv1, hv2⟩ := hB.row j c hj
          rw [Nat.zero_add, cell_of_row _ _ _ _ _ _ hB.heap] at hv1
          refine ⟨v, ?_, Rep.keep hs c v hv2⟩
          rw [Nat.zero_add, hcell, ← hnv]
          simp only [List.getElem?_toArray, List.append_assoc]
          rw [List.getElem?_append_left (by omega), List.getElem?_take_of_lt hjl]
          simpa using hv1
        · obtain ⟨v, hv1, hv2⟩ := hvp j c hj
          have hjl : j < news.length := (List.getElem?_eq_some_iff.1 hv1).1
          refine ⟨v, ?_, Rep.keep hs c v hv2⟩
          rw [Nat.zero_add, hcell, ← hnv, he]
          simp only [List.getElem?_toArray, List.append_assoc]
          rw [List.getElem?_append_right (by omega), ht, Nat.add_sub_cancel_left, List.getElem?_append_left hjl]
          exact hv1
    · rw [Store.put_other _ _ _ e1] at h
      by_cases e2 : i = id
      · subst e2; simp [Store.put] at h
      · rw [Store.put_other _ _ _ e2] at h
        obtain ⟨g', N', cur', ty', hB'⟩ := hi.blk i bk' h
        have hne : g' ≠ g := hi.inj i id _ _ (by simp [h]) (by simp [hid]) e2 hB'.μ hB.μ
        exact ⟨g', N', cur', ty', hB'.keep hs (setRow_other w g g' nv hne) hB'.no⟩
  · intro i j x y hx hy hne h1 h2
    simp only [Store.app] at hx hy
    have other : ∀ i, i ≠ p → ((σ.put id none).put p (some ⟨bk.els ++ ys, bk.k, false⟩)) i ≠ none → i ≠ id ∧ σ i ≠ none := by
      intro i e h
      rw [Store.put_other _ _ _ e] at h
      have e2 : i ≠ id := by rintro rfl; simp [Store.put] at h
      rw [Store.put_other _ _ _ e2] at h
      exact ⟨e2, h⟩
    by_cases e1 : i = p
    · have e1 := e1.symm
      subst e1
      have e2 : j ≠ p := fun e => hne e.symm
      obtain ⟨h3, h4⟩ := other j e2 hy
      rw [Env.bind_same] at h1
      rw [Env.bind_other _ _ _ _ _ e2] at h2
      have := hi.inj id j (g, bk.k, N) y (by simp [hid]) h4 (fun e => h3 e.symm) hB.μ h2
      simp only [Option.some.injEq] at h1
      rw [← h1]; exact this
    · obtain ⟨h3, h4⟩ := other i e1 hx
      rw [Env.bind_other _ _ _ _ _ e1] at h1
      by_cases e2 : j = p
      · subst e2
        rw [Env.bind_same] at h2
        have := hi.inj i id x (g, bk.k, N) h4 (by simp [hid]) h3 h1 hB.μ
        simp only [Option.some.injEq] at h2
        rw [← h2]; exact this
      · obtain ⟨h5, h6⟩ := other j e2 hy
        rw [Env.bind_other _ _ _ _ _ e2] at h2
        exact hi.inj i j x y h4 h6 hne h1 h2
  · intro g' cs hg'
    obtain ⟨h1, h2⟩ := hi.glob g' cs hg'
    exact ⟨h1, RepCells.keep hs.bare (hs.same g' h1) cs 0 h2⟩
  · intro k hk; simp at hk; exact hi.new k hk
  · simp only [Rep]
    exact ⟨g, N, N, Env.bind_same _ _ _ _ _, by simp, hfit, by omega, hB.most, by simp⟩
def FlatAV0 (c : AV) (val : Value) : Prop := ∀ E w, Rep E w c val
theorem all_one {ys : List AV} (h : (ys.all fun e => e.cells.all AV.one) = true) : ∀ c ∈ flat ys, c.one = true := by
  intro c hc
  simp only [flat, List.mem_flatMap] at hc
  obtain ⟨e, he, hce⟩ := hc
  have := List.all_eq_true.1 h e he
  exact List.all_eq_true.1 this c hce
theorem run_append_room_any (t ty e bt : TypeId) (i : TypeInfo) (ht : P.underlying t = some (.slice e)) (hi : P.info? e = some i)
    (g sLen sCap : Nat) (cur : Array Value) (hg : w.heap[g]? = some (.cells cur bt (0, 0)))
    (a : Addr) (m c : Nat) (news : List Value) (hl : news.length = m * i.size) (hnews : ∀ j u, news[j]? = some u → w.cell? (a.add j) = some u) (h1 : ∀ u ∈ news, u.oneCell' = true)
    (hroom : sLen + m ≤ sCap) (hfit : sLen * i.size + news.length ≤ cur.size) :
    (Builtin.append_ #[t, t] ty #[.slice (some ⟨g, 0, none⟩) sLen sCap, .slice (some a) m c]).run P w =
      .ok (.slice (some ⟨g, 0, none⟩) (sLen + m) sCap) (w.setRow g (cur.toList.take (sLen * i.size) ++ news ++ cur.toList.drop (sLen * i.size + news.length)).toArray) := by
  have hf := run_firstCells_some (P := P) w i.size m a m c news hl hnews
  have hst := run_storeCells_at P g (sLen * i.size) bt news 0 cur w hg (by simpa using hfit) h1
  simp only [Nat.add_zero] at hst
  simp [Builtin.append_, run_underlying ht, sizeOf, typeInfo, hi, Builtin.lenOf, hroom, hf, Addr.add_lit, hst]
theorem zeroCells_rep {z : AV} {zv : Value} (hz : RepL E w z.cells zv.cells.toList) (n : Nat) (hp : 0 < z.size) : RepL E w (flat (List.replicate n z)) (Builtin.zeroCells zv.cells n).toList := by
  obtain ⟨hl, hp2⟩ := repL_iff.1 hz
  have hk : ∀ e ∈ List.replicate n z, e.size = z.size := fun e he => by rw [List.eq_of_mem_replicate he]
  have hfl := flat_length hk
  have hs : zv.cells.size = z.size := by simpa [AV.size] using hl
  refine repL_iff.2 ⟨by rw [hfl]; simp [Builtin.zeroCells, hs], fun j c hj => ?_⟩
  have hjl : j < n * z.size := by have := (List.getElem?_eq_some_iff.1 hj).1; rw [hfl] at this; simpa using this
  have hdm : j / z.size * z.size + j % z.size = j := by rw [Nat.mul_comm]; exact Nat.div_add_mod j z.size
  have hmod := Nat.mod_lt j hp
  have hdiv : j / z.size < n := Nat.div_lt_of_lt_mul (by rwa [Nat.mul_comm] at hjl)
  have hg := flat_get (i := j / z.size) (e := z) hk (by simp [hdiv]) hmod
  rw [hdm, hj] at hg
  obtain ⟨v, hv, hr⟩ := hp2 (j % z.size) c hg.symm
  refine ⟨v, ?_, hr⟩
  have hv' : zv.cells[j % z.size]? = some v := by simpa using hv
  simp only [Builtin.zeroCells, Array.toList_map, Array.toList_range, List.getElem?_map, hs, List.getElem?_range hjl, Option.map_some]
  rw [getElem!_def, hv']
theorem over_sound (hi : Inv G own E w σ) {id : Id} {off k len : Nat} {tt : Bool} {news : List AV} {v : AV} {rd : List Id} {r : Res} (h : vover σ id off k news v rd = some r) {a : Value} (hs : Rep E w (.osl id k off len tt) a)
    (hk : ∀ e ∈ news, e.size = k) {vs : List Value} (hv : RepL E w (flat news) vs) {val : Value} (hval : FlatAV0 v val) :
    ∃ g cap, a = .slice (some ⟨g, off * k, none⟩) len cap ∧ ∃ w', (storeCells ⟨g, off * k, none⟩ vs).run P w = .ok () w' ∧ OpPost G own E w σ p r val E w' := by
  unfold vover at h
  split at h
  · rename_i bk hid
    split at h
    · rename_i hh
      obtain ⟨hbk, hle, hfr, hy1⟩ := hh
      simp only [Option.some.injEq] at h; subst h
      obtain ⟨g, N, cur, ety, hB⟩ := hi.blk id bk hid
      simp only [Rep] at hs
      obtain ⟨g', N', cap, hmm, rfl, hlc, hoc, hNm, htt⟩ := hs
      rw [hB.μ] at hmm
      simp only [Option.some.injEq, Prod.mk.injEq] at hmm
      obtain ⟨rfl, _, rfl⟩ := hmm
      obtain ⟨hbd, had, hi2⟩ := storeEls_ok hi hid hfr hB (e := off) (news := news) (vs := vs) hle (fun e he => by rw [hbk]; exact hk e he) hv
      have e0 : off * bk.k = off * k := by rw [hbk]
      rw [e0] at hbd had hi2
      have hst := run_storeCells_at P g (off * k) ety vs 0 cur w hB.heap (by simpa using hbd) (one_vals hv (all_one hy1))
      simp only [Nat.add_zero] at hst
      exact ⟨g, cap, rfl, _, hst, had, hi2, hval E _, fun _ _ => rfl⟩
    · simp at h
  · simp at h
theorem clear_sound (hi : Inv G own E w σ) {t e ty : TypeId} {z : AV} (hu : P.underlying t = some (.slice e)) (hz : zeroAV P e = some z) (hpos : 0 < z.size) {x : AV} {a : Value} (hx : Rep E w x a) {r : Res} (h : vclear σ z.size z x = some r) :
    Sound P G own E w σ p (Builtin.clear_ #[t] ty #[a]) r := by
  obtain ⟨it, zv, hit, hzv, hzc, hzs, hzo⟩ := zeroAV_spec hz
  have hzr := Rep.cells (constAV_rep (E := E) (w := w) hzc) (one_or_agg hzo)
  unfold vclear at h
  split at h
  · simp only [Option.some.injEq] at h; subst h
    simp only [Rep] at hx; subst hx
    exact Sound.same (v := .tuple #[]) hi (by simp [Builtin.clear_, run_underlying hu]) (by simp only [Rep]; exact ⟨#[], rfl, by simp [RepL]⟩)
  · rename_i id k' off len tt
    split at h
    · rename_i h0
      subst h0
      simp only [Option.some.injEq] at h; subst h
      simp only [Rep] at hx
      obtain ⟨g', N', cap, hmm, rfl, _⟩ := hx
      exact Sound.same (v := .tuple #[]) hi (by simp [Builtin.clear_, run_underlying hu]) (by simp only [Rep]; exact ⟨#[], rfl, by simp [RepL]⟩)
    · rename_i h0
      split at h
      · rename_i hh
        obtain ⟨rfl, _⟩ := hh
        obtain ⟨g, cap, rfl, w', hst, hp⟩ := over_sound (P := P) (p := p) (val := .tuple #[]) hi h hx (fun e he => by rw [List.eq_of_mem_replicate he]) (zeroCells_rep hzr len hpos) (fun E w => by simp only [Rep]; exact ⟨#[], rfl, by simp [RepL]⟩)
        refine ⟨_, w', E, ?_, hp⟩
        obtain ⟨m, rfl⟩ : ∃ m, len = m + 1 := ⟨len - 1, by omega⟩
        simp [Builtin.clear_, run_underlying hu, zeroValue_run hit hzv, hst]
      · simp at h
  · simp at h
theorem copy_sound (hi : Inv G own E w σ) {t t2 e ty : TypeId} {i : TypeInfo} (hu : P.underlying t = some (.slice e)) (hie : P.info? e = some i) {d x : AV} {a b : Value} (hd : Rep E w d a) (hx : Rep E w x b) {r : Res} (h : vcopy σ i.size d x = some r) :
    Sound P G own E w σ p (Builtin.copy_ #[t, t2] ty #[a, b]) r := by
  unfold vcopy at h
  split at h
  · simp at h
  · rename_i ys rd hel
    obtain ⟨hks, xa, xcap, rfl, hxl, hrow⟩ := elems_rep hi hx hel
    have zero : ∀ (ba : Option Addr) (n cap : Nat), Nat.min ys.length n = 0 → (Builtin.copy_ #[t, t2] ty #[.slice ba n cap, .slice xa ys.length xcap]).run P w = .ok (.int .i64 0) w := by
      intro ba n cap h0
      cases ba <;> cases xa <;> simp [Builtin.copy_, run_underlying hu, sizeOf_run hie, Builtin.lenOf, h0, Builtin.firstCells, loadCells, loadCellsFrom, storeCells, goInt]
    split at h
    · simp only [Option.some.injEq] at h; subst h
      simp only [Rep] at hd; subst hd
      exact Sound.same hi (zero none 0 0 (by simp)) (by simp only [Rep])
    · rename_i id k' off len tt
      split at h
      · rename_i h0
        simp only [Option.some.injEq] at h; subst h
        simp only [Rep] at hd
        obtain ⟨g', N', cap, hmm, rfl, _⟩ := hd
        have h0' : Nat.min ys.length len = 0 := by
          have := congrArg List.length (List.isEmpty_iff.1 h0)
          simp only [List.length_take, List.length_nil] at this
          rw [Nat.min_comm] at this; exact this
        exact Sound.same hi (zero _ len cap h0') (by simp only [Rep])
      · rename_i h0
        split at h
        · rename_i hk
          subst hk
          have hne : ys ≠ [] := by rintro rfl; simp at h0
          obtain ⟨xb, xo, rfl, hxr⟩ := hrow.resolve_left hne
          have hkt : ∀ e ∈ ys.take len, e.size = i.size := fun e he => hks e (List.mem_of_mem_take he)
          have hxr2 : RepAt E w xb xo (flat (ys.take len)) := by
            rw [flat_take hks]
            exact (repAt_append.1 (by rw [List.take_append_drop]; exact hxr : RepAt E w xb xo ((flat ys).take (len * i.size) ++ (flat ys).drop (len * i.size)))).1
          obtain ⟨news, hnr, hnc⟩ := vals_of hxr2
          have hnl : news.length = (ys.take len).length * i.size := by rw [RepL.len hnr, flat_length hkt]
          obtain ⟨g, cap, rfl, w', hst, hp⟩ := over_sound (P := P) (p := p) (val := .int .i64 (ys.take len).length) hi h hd hkt hnr (fun E w => by simp only [Rep])
          refine ⟨_, w', E, ?_, hp⟩
          have hmin : Nat.min ys.length len = (ys.take len).length := by rw [List.length_take, Nat.min_comm]
          have hf := run_firstCells_some (P := P) w i.size (ys.take len).length ⟨xb, xo, none⟩ ys.length xcap news hnl hnc
          generalize (ys.take len).length = m at hmin hf hp ⊢
          simp [Builtin.copy_, run_underlying hu, sizeOf_run hie, Builtin.lenOf, hmin, hf, hst, goInt]
        · simp at h
    · simp at h
theorem sliceLike_iff {d : Option TypeDesc} (h : sliceLike d = true) : ∃ e, d = some (.slice e) := by
  unfold sliceLike at h
  split at h
  · exact ⟨_, rfl⟩
  · cases h
theorem run_append_types {t t' e e' ty : TypeId} (hu : P.underlying t = some (.slice e)) (hu' : P.underlying t' = some (.slice e')) (a b : Value) (w : World) :
    (Builtin.append_ #[t, t'] ty #[a, b]).run P w = (Builtin.append_ #[t, t] ty #[a, b]).run P w := by
  cases a <;> simp [Builtin.append_, run_underlying hu, run_underlying hu']
theorem append_sound (hi : Inv G own E w σ) (hμ : E.μ p = none) (hσ : σ p = none) {t e ty : TypeId} {i : TypeInfo} (hu : P.underlying t = some (.slice e)) (hie : P.info? e = some i)
    (hz : (zeroAV P e).isSome = true) {s x : AV} {a b : Value} (hs : Rep E w s a) (hx : Rep E w x b) {r : Res} (h : vappend σ p i.size i.bytes s x = some r) :
    Sound P G own E w σ p (Builtin.append_ #[t, t] ty #[a, b]) r := by
  obtain ⟨z, hz⟩ := Option.isSome_iff_exists.1 hz
  obtain ⟨it, zv, hit, hzv, hzc, hzs, hzo⟩ := zeroAV_spec hz
  rw [hie] at hit
  simp only [Option.some.injEq] at hit; subst hit
  have hzsz : zv.cells.size = i.size := by
    have := RepL.len (Rep.cells (constAV_rep (E := E) (w := w) hzc) (one_or_agg hzo))
    simp at this; unfold AV.size at hzs; omega
  unfold vappend at h
  split at h
  · simp at h
  · rename_i ys rd hel
    obtain ⟨hks, xa, xcap, rfl, hxl, hrow⟩ := elems_rep hi hx hel
    split at h
    · rename_i hemp
      have hys : ys = [] := by simpa using hemp
      subst hys
      have hrun : ∀ (base : Option Addr) (n cap : Nat), n ≤ cap → (Builtin.append_ #[t, t] ty #[.slice base n cap, .slice xa ([] : List AV).length xcap]).run P w = .ok (.slice base n cap) w := by
        intro base n cap hn
        cases base <;> cases xa <;> simp [Builtin.append_, run_underlying hu, sizeOf_run hie, Builtin.lenOf, hn, Builtin.firstCells, loadCells, loadCellsFrom, storeCells]
      split at h
      · simp only [Option.some.injEq] at h; subst h
        have hs' := hs
        simp only [Rep] at hs; subst hs
        exact Sound.same hi (hrun none 0 0 (Nat.le_refl _)) hs'
      · simp only [Option.some.injEq] at h; subst h
        have hs' := hs
        simp only [Rep] at hs; obtain ⟨q, rfl, _⟩ := hs
        exact Sound.same hi (hrun q _ _ (Nat.le_refl _)) hs'
      · simp only [Option.some.injEq] at h; subst h
        have hs' := hs
        simp only [Rep] at hs; obtain ⟨g, N, cap, _, rfl, hle, _⟩ := hs
        exact Sound.same hi (hrun _ _ _ hle) hs'
      · simp at h
    · rename_i hemp
      have hne : ys ≠ [] := by simpa using hemp
      have hpos : 0 < ys.length := List.length_pos_iff.2 hne
      obtain ⟨xb, xo, rfl, hxr⟩ := hrow.resolve_left hne
      obtain ⟨news, hnr, hnc⟩ := vals_of hxr
      have hfl := flat_length hks
      have hnl : news.length = ys.length * i.size := by rw [RepL.len hnr, hfl]
      -- an append to a row that has no room
      have grow : ∀ (ba : Addr) (q : Nat) (es : List AV) (cap : Nat), (∀ e ∈ es, e.size = i.size) → (es = [] ∨ ∃ b o, ba = ⟨b, o, none⟩ ∧ RepAt E w b o (flat es)) → q = es.length → cap < q + ys.length →
          (q + ys.length) * i.bytes ≤ 140737488355328 → q + ys.length ≤ maxLen → ∀ rd,
          ∃ v w' E', (Builtin.append_ #[t, t] ty #[.slice (some ba) q cap, .slice (some ⟨xb, xo, none⟩) ys.length xcap]).run P w = .ok v w' ∧
            OpPost G own E w σ p { val := .osl p i.size 0 (q + ys.length) false, rd := rd, up := [(p, some ⟨es ++ ys, i.size, false⟩)] } v E' w' := by
        intro ba q es cap hk hr hq hcap hb hm rd
        have hfe := flat_length hk
        obtain ⟨olds, hor, hoc⟩ : ∃ vs : List Value, RepL E w (flat es) vs ∧ ∀ j v, vs[j]? = some v → w.cell? (ba.add j) = some v := by
          rcases hr with rfl | ⟨b, o, rfl, hr⟩
          · exact ⟨[], by simp [flat, RepL], by simp⟩
          · exact vals_of hr
        have hol : olds.length = q * i.size := by rw [RepL.len hor, hfe, hq]
        have hrun := run_append_grow (P := P) w t ty e i zv hu hie hzv ba q cap olds hol hoc ⟨xb, xo, none⟩ ys.length xcap news hnl hnc hcap (by unfold maxLen at hm; omega) (growslice_fits hcap hb)
        have hge := grownCap_ge w (q + ys.length) cap e
        have hcm := grownCap_le_maxLen w (q + ys.length) cap e hm
        refine ⟨_, _, E.bind p w.heap.size i.size (grownCap w (q + ys.length) cap e), hrun, ?_⟩
        have := fresh_ok (p := p) (rd := rd) hi hμ hσ (k := i.size) (n := q + ys.length) (N := grownCap w (q + ys.length) cap e) (els := es ++ ys) (fun e he => (List.mem_append.1 he).elim (hk e) (hks e)) (by simp [hq])
          (vs := olds ++ news) (by rw [flat_append]; exact RepL.append hor hnr) (rest := Builtin.zeroCells zv.cells (grownCap w (q + ys.length) cap e - (q + ys.length))) (by rw [size_zeroCells, hzsz]) hge hcm e
        have hee : (olds ++ news).toArray = olds.toArray ++ news.toArray := by simp
        rw [hee] at this
        exact this
      split at h
      · -- onto nil
        split at h
        · rename_i hh
          obtain ⟨hb, hm, _⟩ := hh
          simp only [Option.some.injEq] at h; subst h
          simp only [Rep] at hs; subst hs
          have hrun := run_append_nil (P := P) w t ty e i zv hu hie hzv ⟨xb, xo, none⟩ ys.length xcap news hnl hnc hpos (by unfold maxLen at hm; omega) (by omega)
          have hge := grownCap_ge w ys.length 0 e
          have hcm := grownCap_le_maxLen w ys.length 0 e hm
          refine ⟨_, _, E.bind p w.heap.size i.size (grownCap w ys.length 0 e), hrun, ?_⟩
          exact fresh_ok (p := p) (rd := rd) hi hμ hσ (k := i.size) (n := ys.length) (N := grownCap w ys.length 0 e) (els := ys) hks rfl hnr (by rw [size_zeroCells, hzsz]) hge hcm e
        · simp at h
      · -- onto a row without room
        rename_i k' es
        split at h
        · rename_i hh
          obtain ⟨rfl, hb, hm, _⟩ := hh
          simp only [Option.some.injEq] at h; subst h
          simp only [Rep] at hs
          obtain ⟨q, rfl, _, hk, hr⟩ := hs
          cases q with
          | none =>
            have hes : es = [] := by rcases hr with h | ⟨b, o, h, _⟩; exact h; simp at h
            subst hes
            simp only [List.length_nil, Nat.zero_add, List.nil_append] at hb hm ⊢
            have hrun := run_append_nil (P := P) w t ty e i zv hu hie hzv ⟨xb, xo, none⟩ ys.length xcap news hnl hnc hpos (by unfold maxLen at hm; omega) (by omega)
            have hge := grownCap_ge w ys.length 0 e
            have hcm := grownCap_le_maxLen w ys.length 0 e hm
            refine ⟨_, _, E.bind p w.heap.size i.size (grownCap w ys.length 0 e), hrun, ?_⟩
            exact fresh_ok (p := p) (rd := rd) hi hμ hσ (k := i.size) (n := ys.length) (N := grownCap w ys.length 0 e) (els := ys) hks rfl hnr (by rw [size_zeroCells, hzsz]) hge hcm e
          | some ba =>
            exact grow ba es.length es es.length hk (hr.imp id fun ⟨b, o, e, _, r⟩ => ⟨b, o, by simpa using e, repRow_iff.1 r⟩) rfl (by omega) hb hm rd
        · simp at h
      · -- onto a block of the store
        rename_i id k' off len tt
        split at h
        · rename_i bk hid
          split at h
          · rename_i hh
            obtain ⟨rfl, hbk, rfl, hle, hb, hm, hy1⟩ := hh
            obtain ⟨g, N, cur, ety, hB⟩ := hi.blk id bk hid
            simp only [Rep] at hs
            obtain ⟨g', N', cap, hmm, rfl, hlc, hoc, hNm, htt⟩ := hs
            rw [hB.μ] at hmm
            simp only [Option.some.injEq, Prod.mk.injEq] at hmm
            obtain ⟨rfl, _, rfl⟩ := hmm
            have hkk : ∀ e ∈ bk.els, e.size = i.size := fun e he => by rw [← hbk]; exact hB.k e he
            simp only [Nat.zero_mul]
            split at h
            · split at h
              · rename_i ht _
                simp only [Option.some.injEq] at h; subst h
                rw [if_pos ht] at htt
                have hsub := repAt_sub (l := 0) (r := len) hB.k hB.row (Nat.zero_le _) hle
                simp only [Nat.zero_mul, Nat.add_zero, List.drop_zero] at hsub
                exact grow ⟨g, 0, none⟩ len (bk.els.take len) cap (fun e he => hkk e (List.mem_of_mem_take he)) (.inr ⟨g, 0, rfl, hsub⟩) (by simp; omega) (by omega) hb hm (id :: rd)
              · simp at h
            · split at h
              · rename_i ht hh2
                obtain ⟨hle2, hfr, hb1⟩ := hh2
                simp only [Option.some.injEq] at h; subst h
                simp only [ht, Bool.false_eq_true, if_false, Nat.zero_add] at htt
                subst hle2
                by_cases hroom : bk.els.length + ys.length ≤ cap
                · have hrun := run_append_room_any (P := P) (w := w) t ty e ety i hu hie g bk.els.length cap cur hB.heap ⟨xb, xo, none⟩ ys.length xcap news hnl hnc (one_vals hnr (all_one hy1)) hroom
                    (by rw [hnl, hB.size, hbk, ← Nat.add_mul]; exact Nat.mul_le_mul_right _ (by omega))
                  obtain rfl : cap = N := htt
                  refine ⟨_, _, E.bind p g i.size cap, hrun, ?_⟩
                  have := room_ok (p := p) (rd := id :: rd) hi hμ hσ hid hfr hB (ys := ys) (fun e he => by rw [hbk]; exact hks e he) hnr hroom
                  rw [hbk] at this
                  exact this
                · obtain ⟨v, w', E', hrun, hpost⟩ := grow ⟨g, 0, none⟩ bk.els.length bk.els cap hkk (.inr ⟨g, 0, rfl, hB.row⟩) rfl (by omega) hb hm (id :: rd)
                  refine ⟨v, w', E', hrun, hpost.adv, ?_, hpost.rep, hpost.ids⟩
                  have hne0 : id ≠ p := by rintro rfl; simp [hid] at hσ
                  have := dead_ok hpost.inv id
                  have he : (σ.app [(p, some ⟨bk.els ++ ys, i.size, false⟩)]).put id none = σ.app [(id, none), (p, some ⟨bk.els ++ ys, i.size, false⟩)] := by
                    funext j
                    simp only [Store.app, Store.put]
                    by_cases e1 : j = id
                    · subst e1; simp [hne0]
                    · simp [e1]
                  rw [he] at this
                  exact this
              · split at h
                · -- over elements that lie behind
                  rename_i ht _ hh2
                  obtain ⟨hle2, hfr⟩ := hh2
                  simp only [Option.some.injEq] at h; subst h
                  simp only [ht, Bool.false_eq_true, if_false, Nat.zero_add] at htt
                  obtain rfl : cap = N := htt
                  have hroom : len + ys.length ≤ cap := Nat.le_trans hle2 hB.len
                  obtain ⟨hbd, had, hi2⟩ := storeEls_ok hi hid hfr hB (e := len) (news := ys) (vs := news) hle2 (fun e he => by rw [hbk]; exact hks e he) hnr
                  have e0 : len * bk.k = len * i.size := by rw [hbk]
                  rw [e0] at hbd had hi2
                  have hrun := run_append_room_any (P := P) (w := w) t ty e ety i hu hie g len cap cur hB.heap ⟨xb, xo, none⟩ ys.length xcap news hnl hnc (one_vals hnr (all_one hy1)) hroom hbd
                  refine ⟨_, _, E, hrun, had, hi2, ?_, fun _ _ => rfl⟩
                  simp only [Rep]
                  exact ⟨g, cap, cap, by rw [hB.μ, hbk], by simp, hroom, by omega, hNm, by simp⟩
                · simp at h
          · simp at h
        · simp at h
      · simp at h
theorem appz_sound (hi : Inv G own E w σ) (hμ : E.μ p = none) (hσ : σ p = none) {t tn e ty : TypeId} {i : TypeInfo} {kn : IntKind} (hu : P.underlying t = some (.slice e)) (hie : P.info? e = some i) (htn : P.underlying tn = some (.int kn)) {z : AV}
    (hz : zeroAV P e = some z) (hpos : 0 < i.size) {s x : AV} {a b : Value} (hs : Rep E w s a) (hx : Rep E w x b) {r : Res} (h : vappz p i.size i.bytes z s x = some r) :
    Sound P G own E w σ p (Builtin.append_ #[t, tn] ty #[a, b]) r := by
  obtain ⟨it, zv, hit, hzv, hzc, hzs, hzo⟩ := zeroAV_spec hz
  rw [hie] at hit
  simp only [Option.some.injEq] at hit; subst hit
  have hzr := Rep.cells (constAV_rep (E := E) (w := w) hzc) (one_or_agg hzo)
  have hzsz : zv.cells.size = i.size := by have := RepL.len hzr; simp at this; unfold AV.size at hzs; omega
  unfold vappz at h
  split at h
  · rename_i kk n
    split at h
    · rename_i hh
      obtain ⟨h0, hb, hm, hzk, _⟩ := hh
      simp only [Option.some.injEq] at h; subst h
      simp only [Rep] at hs hx; subst hs; subst hx
      obtain ⟨m, rfl⟩ : ∃ m : Nat, n = m := ⟨n.toNat, by omega⟩
      have hb' : m * i.bytes ≤ 140737488355328 := by rw [← Int.natCast_mul] at hb; omega
      have hm' : m ≤ maxLen := by omega
      have hge := grownCap_ge w m 0 e
      have hcm := grownCap_le_maxLen w m 0 e hm'
      have hrun := Lib.run_append_nil_zeros (P := P) w t tn ty e i zv kk kn hu htn hie hzv m (by omega) hpos (by unfold maxLen at hm'; omega) (by omega)
      refine ⟨_, _, E.bind p w.heap.size i.size (grownCap w m 0 e), hrun, ?_⟩
      have := fresh_ok (p := p) (rd := []) hi hμ hσ (k := i.size) (n := m) (N := grownCap w m 0 e) (els := List.replicate m z) (fun e he => by rw [List.eq_of_mem_replicate he]; exact hzk) (by simp)
        (vs := (Builtin.zeroCells zv.cells m).toList) (zeroCells_rep hzr m (by omega)) (rest := Builtin.zeroCells zv.cells (grownCap w m 0 e - m)) (by rw [size_zeroCells, hzsz]) hge hcm e
      simpa using this
    · simp at h
  · simp at h
end
end Go.VL
end

section
namespace Go.VL
section
variable {P : Program} {G : Nat → Option (List AV)} {own : Nat → Prop} {E : Env} {w : World} {σ : Store} {p : Id}
def OpDone (P : Program) (G : Nat → Option (List AV)) (own : Nat → Prop) (E : Env) (w : World) (σ : Store) (p : Id) (r : Res) (s : Sem Next) : Prop :=
  ∃ v w' E', (s.run P w = .ok (.value v) w' ∨ (s.run P w = .ok .skip w' ∧ v = undef)) ∧ OpPost G own E w σ p r v E' w'
theorem OpDone.of {s : Sem Value} {r : Res} (h : Sound P G own E w σ p s r) : OpDone P G own E w σ p r (do pure (.value (← s))) := by
  obtain ⟨v, w', E', hr, hp⟩ := h
  exact ⟨v, w', E', .inl (by simp [hr]), hp⟩
theorem OpDone.ofU {s : Sem Unit} {r : Res} (h : ∃ w', s.run P w = .ok () w' ∧ OpPost G own E w σ p r undef E w') : OpDone P G own E w σ p r (do s; pure .skip) := by
  obtain ⟨w', hr, hp⟩ := h
  exact ⟨undef, w', E, .inr ⟨by simp [hr], rfl⟩, hp⟩
theorem cOpt_rep {t : List AV} {a : Act} (hf : FrameRep E w t a) (hi : Inv G own E w σ) {x : Option Operand} {vx : Option VArg} (h : cOpt x = some vx) : OptRep E w (vx.map (VArg.ev G t)) (x.map a.eval) := by
  cases x with
  | none => simp only [cOpt, Option.some.injEq] at h; subst h; trivial
  | some x =>
    simp only [cOpt, Option.map_eq_some_iff] at h
    obtain ⟨va, hva, rfl⟩ := h
    exact cArg_rep hf hi hva
theorem vcapR_spec {σ : Store} {x : AV} {oc : Option AV} {r : Res} (h : vcapR σ x oc = some r) : noIds oc = some r ∨ ∃ id k off len bk, x = .osl id k off len false ∧ σ id = some bk ∧ off ≤ bk.els.length ∧ r = { val := .ige (bk.els.length - off), rd := [id] } := by
  unfold vcapR at h
  split at h
  · exact .inl h
  · split at h
    · rename_i id k off len
      split at h
      · rename_i bk hb
        split at h
        · rename_i ho
          simp only [Option.some.injEq] at h
          exact .inr ⟨id, k, off, len, bk, rfl, hb, ho, h.symm⟩
        · simp at h
      · simp at h
    · simp at h
theorem vsliceR_sound (hi : Inv G own E w σ) {t e : TypeId} {i : TypeInfo} (hu : P.underlying t = some (.slice e)) (hie : P.info? e = some i) {x : AV} {v : Value} (hx : Rep E w x v)
    {lo hi' mx : Option AV} {vlo vhi vmx : Option Value} (hlo : OptRep E w lo vlo) (hhi : OptRep E w hi' vhi) (hmx : OptRep E w mx vmx) (hmh : mx.isSome → hi'.isSome) {r : Res}
    (h : vsliceR σ i.size x lo hi' mx (vslice i.size x lo hi' mx) = some r) : Sound P G own E w σ p (Instr.sliceAt t v vlo vhi vmx) r := by
  cases hs : vslice i.size x lo hi' mx with
  | some c =>
    rw [hs] at h
    refine Sound.of_noIds (oc := some c) h fun c' hc' => ?_
    simp only [Option.some.injEq] at hc'; subst hc'
    exact vslice_sound hi hu hie hx hlo hhi hmx hmh hs
  | none =>
    rw [hs] at h
    simp only [vsliceR] at h
    split at h
    · rename_i id k' off len hh
      split at h
      · rename_i bk hb
        split at h
        · rename_i hc
          obtain ⟨ho, hk⟩ := hc
          simp only [Option.map_eq_some_iff] at h
          obtain ⟨c, hc, rfl⟩ := h
          simp only [Rep] at hx
          obtain ⟨g, N, cap, hm, rfl, h1, h2, h3, h4⟩ := hx
          obtain ⟨g', N', cur, ty', hB⟩ := hi.blk id bk hb
          have hμ := hB.μ
          rw [hμ] at hm
          simp only [Option.some.injEq, Prod.mk.injEq] at hm
          obtain ⟨rfl, rfl, rfl⟩ := hm
          simp only [Bool.false_eq_true, if_false] at h4
          have hl := hB.len
          have hx' : Rep E w (.osl id bk.k off (bk.els.length - off) false) (.slice (some ⟨g', off * bk.k, none⟩) (bk.els.length - off) cap) := by
            simp only [Rep]
            exact ⟨g', N', cap, hμ, rfl, by omega, h2, h3, by simpa using h4⟩
          have hmx0 : vmx = none := by cases vmx with | none => rfl | some _ => exact (hmx : False).elim
          subst hmx0
          obtain ⟨v, w', E', hrun, hp⟩ := vslice_sound (p := p) hi hu hie hx' hlo hhi (mx := none) (vmx := none) hmx (by simp) hc
          cases vhi with
          | none => exact (hhi : False).elim
          | some u =>
            refine ⟨v, w', E', ?_, ⟨hp.adv, hp.inv, hp.rep, hp.ids⟩⟩
            rw [← hrun]
            simp [Instr.sliceAt, Instr.slice, run_underlying hu, Instr.sliceBounds]
        · simp at h
      · simp at h
    · rename_i hh km m
      split at h
      · rename_i n hn
        split at h
        · rename_i l r' hb
          split at h
          · rename_i hc
            simp only [Option.some.injEq] at h; subst h
            obtain ⟨h1, h2⟩ := hc
            have hm0 : m = ((m.toNat : Nat) : Int) := by omega
            obtain ⟨a, cap, rfl, hlc⟩ : ∃ a cap, v = .slice a n cap ∧ n ≤ cap := by
              unfold lenAV at hn
              split at hn
              · simp only [Option.some.injEq] at hn; subst hn
                simp only [Rep] at hx; exact ⟨_, _, hx, Nat.le_refl _⟩
              · split at hn
                · simp only [Option.some.injEq] at hn; subst hn
                  simp only [Rep] at hx; obtain ⟨a, cap, rfl, h, _⟩ := hx; exact ⟨_, _, rfl, h⟩
                · simp at hn
              · split at hn
                · simp only [Option.some.injEq] at hn; subst hn
                  simp only [Rep] at hx; obtain ⟨a, rfl, _⟩ := hx; exact ⟨_, _, rfl, Nat.le_refl _⟩
                · simp at hn
              · split at hn
                · simp only [Option.some.injEq] at hn; subst hn
                  simp only [Rep] at hx; obtain ⟨g, N, cap, _, rfl, h, _⟩ := hx; exact ⟨_, _, rfl, h⟩
                · simp at hn
              · simp at hn
            unfold vbounds at hb
            split at hb
            · simp at hb
            · rename_i h1' e1
              split at hb
              · simp at hb
              · rename_i l1 e2
                simp only [Option.some.injEq, Prod.mk.injEq] at hb
                obtain ⟨rfl, rfl⟩ := hb
                obtain ⟨hb1, _, _⟩ := bounds_run (P := P) (isSlice := true) (len := n) (cap := cap) (m := m.toNat) hlo hhi hmx hlc e1 e2 (.inr ⟨km, by rw [← hm0], by simp, by omega, by omega⟩)
                refine ⟨.slice (if m.toNat = l1 then a else a.map (·.add (l1 * i.size))) (h1' - l1) (m.toNat - l1), w, E, ?_, ⟨Adv.refl own E w, hi, by simp only [Rep], fun _ _ => rfl⟩⟩
                simp [Instr.sliceAt, Instr.slice, run_underlying hu, hb1, sizeOf_run hie]
          · simp at h
        · simp at h
      · simp at h
    · simp at h
theorem ext_run {f : FuncId} {fn : Func} {e : Array Value → Sem Value} {c : Call} {a : Act} {o : Oper} (hop : o.op = .call c) (hcal : c.callee = .value (.func f)) (hf : P.funcs[f]? = some fn) (hname : (fn.name == "runtime.NumGoroutine") = false)
    (hb : fn.body.isNone = true) (hn : Extern.findNext fn = none) (he : Extern.find fn = some e) {v : Value} {w' : World} (hrun : (e (c.args.map a.eval)).run P w = .ok v w') :
    (execOp a.eval o).run P w = .ok (.value v) w' := by
  have h1 := run_callFunc_extern hf hname hb hn he (c.args.map a.eval) w
  rw [hrun] at h1
  simp only [Result.andThen] at h1
  have e0 : a.eval (.func f) = .func (.func f) #[] #[] := rfl
  simp [execOp, hop, resolve, hcal, e0, Deferred.ofValue, invoke, h1]
theorem extK_spec {fo : Operand} {k : ExtK} (h : extK P fo = some k) : ∃ f fn, fo = .func f ∧ P.funcs[f]? = some fn ∧ fn.body.isNone = true ∧
    ((k = .idx ∧ fn.name = "internal/bytealg.IndexByteString" ∧ fn.origin = "") ∨ (k = .ovl ∧ fn.origin = "slices.overlaps" ∧ nameFree fn.name = true ∧ ∃ t e i, fn.params[0]? = some t ∧ P.underlying t = some (.slice e) ∧ P.info? e = some i)) := by
  unfold extK at h
  split at h
  · rename_i f
    split at h
    · rename_i fn hfn
      split at h
      · rename_i hb
        refine ⟨f, fn, rfl, hfn, hb, ?_⟩
        split at h
        · rename_i hn
          simp only [Option.some.injEq] at h
          simp only [Bool.and_eq_true, beq_iff_eq] at hn
          exact .inl ⟨h.symm, hn.1, hn.2⟩
        · split at h
          · rename_i ho
            simp only [Bool.and_eq_true, beq_iff_eq] at ho
            split at h
            · rename_i t ht
              split at h
              · rename_i e he
                split at h
                · rename_i hi
                  simp only [Option.some.injEq] at h
                  obtain ⟨i, hi⟩ := Option.isSome_iff_exists.1 hi
                  exact .inr ⟨h.symm, ho.1, ho.2, t, e, i, ht, he, hi⟩
                · simp at h
              · simp at h
            · simp at h
          · simp at h
      · simp at h
    · simp at h
  · simp at h
theorem free_find {fn : Func} (hf : nameFree fn.name = true) (ho : fn.origin = "slices.overlaps") : Extern.findNext fn = none ∧ Extern.find fn = some (Extern.SlicesOverlaps.overlaps fn.params fn.resultTypes) := by
  unfold nameFree at hf
  simp only [Bool.and_eq_true, Option.isNone_iff_eq_none] at hf
  obtain ⟨⟨⟨⟨h1, h2⟩, h3⟩, h4⟩, _⟩ := hf
  have o1 : Extern.allGenericRows.lookup "slices.overlaps" = none := by kernel_rfl
  have o2 : Extern.allTypedRows.lookup "slices.overlaps" = some Extern.SlicesOverlaps.overlaps := by kernel_rfl
  have o4 : Extern.allNextRows.lookup "slices.overlaps" = none := by kernel_rfl
  constructor
  · simp [Extern.findNext, h4, ho, o4]
  · simp [Extern.find, h1, h2, h3, ho, o1, o2]
theorem idx_find {fn : Func} (hn : fn.name = "internal/bytealg.IndexByteString") (ho : fn.origin = "") : Extern.findNext fn = none ∧ Extern.find fn = some Extern.BytealgIndexByte.indexByte := by
  have o1 : Extern.allGenericRows.lookup "internal/bytealg.IndexByteString" = none := by kernel_rfl
  have o2 : Extern.allTypedRows.lookup "internal/bytealg.IndexByteString" = none := by kernel_rfl
  have o3 : Extern.allRows.lookup "internal/bytealg.IndexByteString" = some Extern.BytealgIndexByte.indexByte := by kernel_rfl
  have o4 : Extern.allNextRows.lookup "internal/bytealg.IndexByteString" = none := by kernel_rfl
  have o5 : Extern.allNextRows.lookup "" = none := by kernel_rfl
  constructor
  · simp [Extern.findNext, hn, ho, o4, o5]
  · simp [Extern.find, hn, o1, o2, o3]
theorem idxByte_eq : ∀ (l : List UInt8) (c : UInt8), Lib.indexByte l c = idxByte l c
  | [], _ => rfl
  | b :: l, c => by simp only [Lib.indexByte, idxByte, idxByte_eq l c]
theorem idx_sound {c : Call} {a : Act} {o : Oper} {fo x y : Operand} (hop : o.op = .call c) (hcal : c.callee = .value fo) (hk : extK P fo = some .idx) (hargs : c.args.toList = [x, y]) (hi : Inv G own E w σ) {vx vy : AV}
    (hx : Rep E w vx (a.eval x)) (hy : Rep E w vy (a.eval y)) {r : Res} (h : noIds (vidx vx vy) = some r) : OpDone P G own E w σ p r (execOp a.eval o) := by
  obtain ⟨f, fn, rfl, hfn, hb, hh⟩ := extK_spec hk
  rcases hh with ⟨_, hn, ho⟩ | ⟨h0, _⟩
  case inr => simp at h0
  have key : ∃ s n, vx = .str s ∧ vy = .int .u8 n ∧ r = { val := .int .i64 (idxByte s n.toNat.toUInt8) } := by
    unfold vidx at h
    split at h
    · simp only [noIds, Option.map_some, Option.some.injEq] at h
      exact ⟨_, _, rfl, rfl, h.symm⟩
    · simp [noIds] at h
  clear h
  obtain ⟨s, n, rfl, rfl, rfl⟩ := key
  · simp only [Rep] at hx hy
    obtain ⟨hn1, hn2⟩ := idx_find hn ho
    have hae : c.args.map a.eval = #[.string ⟨s.toArray⟩, .int .u8 n] := by
      apply Array.ext'
      simp [hargs, hx, hy]
    refine ⟨.int .i64 (idxByte s n.toNat.toUInt8), w, E, .inl (ext_run hop hcal hfn (by rw [hn]; rfl) hb hn1 hn2 ?_), ⟨Adv.refl own E w, hi, by simp only [Rep], fun _ _ => rfl⟩⟩
    rw [hae, Lib.run_indexByteString, idxByte_eq]
theorem run_ovl (params res : Array TypeId) {tS e : TypeId} {i : TypeInfo} (hp : params[0]? = some tS) (ht : P.underlying tS = some (.slice e)) (hie : P.info? e = some i)
    (a b : Addr) (la ca lb cb : Nat) (hne : a.block ≠ b.block) {curA curB : Array Value} {tA tB : TypeId} (ha : w.heap[a.block]? = some (.cells curA tA (0, 0))) (hb : w.heap[b.block]? = some (.cells curB tB (0, 0))) (hkB : curB.size ≠ 0) :
    (Extern.SlicesOverlaps.overlaps params res #[.slice (some a) la ca, .slice (some b) lb cb]).run P w = .ok (.bool false) w := by
  have hnb : (a.block != b.block) = true := by simpa using hne
  have hnb' : (a.block == b.block) = false := by simpa using hne
  have hsa : w.shape? a.block = some (tA, curA.size) := by simp [World.shape?, ha]
  have hsb : w.shape? b.block = some (tB, curB.size) := by simp [World.shape?, hb]
  have hfa : w.frozen? a = false := by simp [World.frozen?, ha]
  have hfe : w.frozen? { block := a.block, off := curA.size } = false := by simp [World.frozen?, ha]
  have hz : (Go.sizeOf e).run P w = .ok i.size w := sizeOf_run hie w
  change Sem.run P (α := Value) (do
    let some t := params[0]? | stuck "slices.overlaps: no parameter types"
    let .slice elem ← underlying t | stuck "slices.overlaps: slice type expected"
    let size ← sizeOf elem
    match (some a : Option Addr), (some b : Option Addr) with
    | some a, some b =>
      if la = 0 ∨ lb = 0 ∨ size = 0 then pure (Value.bool false)
      else if a.block != b.block && (← frozen a) && (← frozen b) then unsupported .addressObserved
      else do
        if a.block != b.block then do
          noView a; noView b
          if ← mayBeOne a b then return Value.bool ((← choose (.extern "sameAddr.stringBytes" 2)) == 1)
        pure (Value.bool (a.block == b.block && a.off < b.off + lb * size && b.off < a.off + la * size))
    | _, _ => pure (Value.bool false)) w = _
  rw [hp]
  by_cases h0 : la = 0 ∨ lb = 0 ∨ i.size = 0
  · simp [run_underlying ht, hz, h0]
  · cases hk : curB.size with
    | zero => exact absurd hk hkB
    | succ kB =>
      simp [run_underlying ht, hz, h0, hnb, hnb', frozen, noView, viewAt, mayBeOne, stringish, shape, Sem.run, hsa, hsb, hfa, hfe, hk]
theorem ovl_sound {c : Call} {a : Act} {o : Oper} {fo x y : Operand} (hop : o.op = .call c) (hcal : c.callee = .value fo) (hk : extK P fo = some .ovl) (hargs : c.args.toList = [x, y]) (hi : Inv G own E w σ) {vx vy : AV}
    (hx : Rep E w vx (a.eval x)) (hy : Rep E w vy (a.eval y)) {r : Res} (h : vovl σ vx vy = some r) : OpDone P G own E w σ p r (execOp a.eval o) := by
  obtain ⟨f, fn, rfl, hfn, hb, hh⟩ := extK_spec hk
  rcases hh with ⟨h0, _⟩ | ⟨_, ho, hnf, tS, e, i, hp, ht, hie⟩
  case inl => simp at h0
  unfold vovl at h
  split at h
  · rename_i id1 k1 o1 l1 t1 id2 k2 o2 l2 t2
    split at h
    · simp at h
    · rename_i hne
      split at h
      · rename_i b1 b2 h1 h2
        split at h
        · rename_i hpos
          simp only [Option.some.injEq] at h; subst h
          simp only [Rep] at hx hy
          obtain ⟨g1, N1, c1, hm1, hv1, _⟩ := hx
          obtain ⟨g2, N2, c2, hm2, hv2, _⟩ := hy
          obtain ⟨g1', N1', cur1, ty1, hB1⟩ := hi.blk id1 b1 h1
          obtain ⟨g2', N2', cur2, ty2, hB2⟩ := hi.blk id2 b2 h2
          have hg : g1 ≠ g2 := hi.inj id1 id2 _ _ (by simp [h1]) (by simp [h2]) hne hm1 hm2
          rw [hB1.μ] at hm1
          rw [hB2.μ] at hm2
          simp only [Option.some.injEq, Prod.mk.injEq] at hm1 hm2
          obtain ⟨rfl, _, _⟩ := hm1
          obtain ⟨rfl, _, _⟩ := hm2
          obtain ⟨hn1, hn2⟩ := free_find hnf ho
          have hname : (fn.name == "runtime.NumGoroutine") = false := by
            unfold nameFree at hnf
            simp only [Bool.and_eq_true, Bool.not_eq_true'] at hnf
            exact hnf.2
          have hae : c.args.map a.eval = #[.slice (some ⟨g1', o1 * k1, none⟩) l1 c1, .slice (some ⟨g2', o2 * k2, none⟩) l2 c2] := by
            apply Array.ext'
            simp [hargs, hv1, hv2]
          have hsz : cur2.size ≠ 0 := by
            rw [hB2.size]
            have hl := hB2.len
            exact Nat.ne_of_gt (Nat.mul_pos (by omega) hpos.1)
          refine ⟨.bool false, w, E, .inl (ext_run hop hcal hfn hname hb hn1 hn2 ?_), ⟨Adv.refl own E w, hi, by simp only [Rep], fun _ _ => rfl⟩⟩
          rw [hae]
          exact run_ovl fn.params fn.resultTypes hp ht hie _ _ _ _ _ _ hg hB1.heap hB2.heap hsz
        · simp at h
      · simp at h
  · simp at h
theorem builtin_sound (hi : Inv G own E w σ) (hμ : E.μ p = none) (hσ : σ p = none) {t : List AV} {a : Act} (hf : FrameRep E w t a) {b : Builtin} {args : Array Operand} {ts : Array TypeId} {ty : TypeId} {cs : Array Bool} {vo : VOp VArg}
    (hc : cBuiltin P b args ts = some vo) {r : Res} (h : vop σ p (vo.map (VArg.ev G t)) = some r) {R : Prop}
    (fin : ∀ {s : Sem Value}, builtin b ts ty cs (args.map a.eval) = (do pure (.value (← s))) → Sound P G own E w σ p s r → R) : R := by
  unfold cBuiltin at hc
  split at hc
  · -- len
    rename_i x tx hargs hts
    have hargs' : args = #[x] := by apply Array.ext'; simpa using hargs
    have hts' : ts = #[tx] := by apply Array.ext'; simpa using hts
    refine fin (s := Builtin.len_ ts ty (args.map a.eval)) rfl ?_
    rw [hargs', hts']
    split at hc
    · rename_i hu
      simp only [Option.map_eq_some_iff] at hc; obtain ⟨va, hva, rfl⟩ := hc
      simp only [VOp.map, vop] at h
      have hr := cArg_rep hf hi hva
      refine Sound.of_noIds h fun cc hcc => ?_
      cases hx : va.ev G t <;> simp only [hx, vlen, Option.some.injEq, reduceCtorEq] at hcc
      rename_i l
      rw [hx] at hr
      simp only [Rep] at hr
      subst hcc
      refine Sound.same (v := .int .i64 l.length) hi ?_ (by simp only [Rep])
      have hsz : (ByteArray.mk l.toArray).size = l.length := by show l.toArray.size = l.length; simp
      simp [Builtin.len_, run_underlying hu, hr, goInt, hsz]
    · rename_i e hu
      simp only [Option.map_eq_some_iff] at hc; obtain ⟨va, hva, rfl⟩ := hc
      simp only [VOp.map, vop] at h
      have hr := cArg_rep hf hi hva
      refine Sound.of_noIds h fun cc hcc => ?_
      have hrun : ∀ (ad : Option Addr) (n c : Nat), a.eval x = .slice ad n c → (Builtin.len_ #[tx] ty (#[x].map a.eval)).run P w = .ok (.int .i64 n) w := by
        intro ad n c he
        simp [Builtin.len_, run_underlying hu, he, goInt]
      cases hx : va.ev G t <;> simp only [hx, vlen, Option.some.injEq, reduceCtorEq] at hcc <;> rw [hx] at hr <;> simp only [Rep] at hr <;> subst hcc
      · obtain ⟨ad, cap, he, _⟩ := hr
        exact Sound.same hi (hrun _ _ _ he) (by simp only [Rep])
      · obtain ⟨ad, he, _⟩ := hr
        exact Sound.same hi (hrun _ _ _ he) (by simp only [Rep])
      · exact Sound.same hi (hrun _ _ _ hr) (by simp only [Rep]; rfl)
      · obtain ⟨g, N, cap, _, he, _⟩ := hr
        exact Sound.same hi (hrun _ _ _ he) (by simp only [Rep])
    · rename_i n e hu
      simp only [Option.map_eq_some_iff] at hc; obtain ⟨va, hva, rfl⟩ := hc
      simp only [VOp.map, vop] at h
      refine Sound.of_noIds h fun cc hcc => ?_
      simp only [Option.some.injEq] at hcc; subst hcc
      refine Sound.same (v := .int .i64 n) hi ?_ (by simp only [Rep])
      simp [Builtin.len_, run_underlying hu, goInt]
    · simp at hc
  · -- append
    rename_i s x t1 t2 hargs hts
    have hargs' : args = #[s, x] := by apply Array.ext'; simpa using hargs
    have hts' : ts = #[t1, t2] := by apply Array.ext'; simpa using hts
    refine fin (s := Builtin.append_ ts ty (args.map a.eval)) rfl ?_
    rw [hargs', hts']
    split at hc
    · rename_i e hu
      split at hc
      · rename_i i hie
        split at hc
        · rename_i hh
          obtain ⟨hsl, _, _, hz⟩ := hh
          obtain ⟨e', hu'⟩ := sliceLike_iff hsl
          split at hc
          · rename_i vs vx hvs hvx
            simp only [Option.some.injEq] at hc; subst hc
            simp only [VOp.map, vop] at h
            obtain ⟨v, w', E', hr, hp⟩ := append_sound (ty := ty) hi hμ hσ hu hie hz (cArg_rep hf hi hvs) (cArg_rep hf hi hvx) h
            refine ⟨v, w', E', ?_, hp⟩
            rw [← hr, ← run_append_types (ty := ty) hu hu']
            simp
          · simp at hc
        · split at hc
          · rename_i kn z vs vx hkn hz hvs hvx
            split at hc
            · rename_i hpos
              simp only [Option.some.injEq] at hc; subst hc
              simp only [VOp.map, vop] at h
              have := appz_sound (P := P) (ty := ty) hi hμ hσ hu hie hkn hz hpos (cArg_rep hf hi hvs) (cArg_rep hf hi hvx) h
              simpa using this
            · simp at hc
          · simp at hc
      · simp at hc
    · simp at hc
  · -- cap
    rename_i x tx hargs hts
    have hargs' : args = #[x] := by apply Array.ext'; simpa using hargs
    have hts' : ts = #[tx] := by apply Array.ext'; simpa using hts
    refine fin (s := Builtin.cap_ ts ty (args.map a.eval)) rfl ?_
    rw [hargs', hts']
    split at hc
    · rename_i e hu
      simp only [Option.map_eq_some_iff] at hc; obtain ⟨va, hva, rfl⟩ := hc
      simp only [VOp.map, vop] at h
      have hr := cArg_rep hf hi hva
      rcases vcapR_spec h with h | ⟨id, k, off, len, bk, hx, hid, hoff, rfl⟩
      case inr =>
        rw [hx] at hr; simp only [Rep] at hr
        obtain ⟨g, N, cap, hmm, hv, h1, h2, h3, h4⟩ := hr
        obtain ⟨g', N', cur, ty', hB⟩ := hi.blk id bk hid
        rw [hB.μ] at hmm
        simp only [Option.some.injEq, Prod.mk.injEq] at hmm
        obtain ⟨rfl, _, rfl⟩ := hmm
        refine Sound.same (v := .int .i64 cap) hi (by simp [Builtin.cap_, run_underlying hu, hv, goInt]) ?_
        simp only [Rep]
        have := hB.len
        simp only [Bool.false_eq_true, if_false] at h4
        exact ⟨cap, by omega, rfl⟩
      refine Sound.of_noIds h fun cc hcc => ?_
      have hrun : ∀ (ad : Option Addr) (n c : Nat), a.eval x = .slice ad n c → (Builtin.cap_ #[tx] ty (#[x].map a.eval)).run P w = .ok (.int .i64 c) w := by
        intro ad n c he
        simp [Builtin.cap_, run_underlying hu, he, goInt]
      unfold vcap at hcc
      split at hcc
      · rename_i hx
        rw [hx] at hr; simp only [Rep] at hr
        simp only [Option.some.injEq] at hcc; subst hcc
        exact Sound.same hi (hrun _ _ _ hr) (by simp only [Rep]; rfl)
      · rename_i hx
        rw [hx] at hr; simp only [Rep] at hr
        simp only [Option.some.injEq] at hcc; subst hcc
        obtain ⟨ad, he, _⟩ := hr
        exact Sound.same hi (hrun _ _ _ he) (by simp only [Rep])
      · rename_i hx
        rw [hx] at hr; simp only [Rep, if_true] at hr
        simp only [Option.some.injEq] at hcc; subst hcc
        obtain ⟨g, N, cap, _, he, _, _, _, hcap⟩ := hr
        subst hcap
        exact Sound.same hi (hrun _ _ _ he) (by simp only [Rep])
      · simp at hcc
    · simp at hc
  · -- clear
    rename_i x tx hargs hts
    have hargs' : args = #[x] := by apply Array.ext'; simpa using hargs
    have hts' : ts = #[tx] := by apply Array.ext'; simpa using hts
    refine fin (s := Builtin.clear_ ts ty (args.map a.eval)) rfl ?_
    rw [hargs', hts']
    split at hc
    · rename_i e hu
      split at hc
      · rename_i z vx hz hvx
        split at hc
        · rename_i hpos
          simp only [Option.some.injEq] at hc; subst hc
          simp only [VOp.map, vop] at h
          have := clear_sound (P := P) (p := p) (ty := ty) hi hu hz hpos (cArg_rep hf hi hvx) h
          simpa using this
        · simp at hc
      · simp at hc
    · simp at hc
  · -- copy
    rename_i d x t1 t2 hargs hts
    have hargs' : args = #[d, x] := by apply Array.ext'; simpa using hargs
    have hts' : ts = #[t1, t2] := by apply Array.ext'; simpa using hts
    refine fin (s := Builtin.copy_ ts ty (args.map a.eval)) rfl ?_
    rw [hargs', hts']
    split at hc
    · rename_i e hu
      split at hc
      · rename_i i hie
        split at hc
        · split at hc
          · rename_i vd vx hvd hvx
            simp only [Option.some.injEq] at hc; subst hc
            simp only [VOp.map, vop] at h
            have := copy_sound (P := P) (p := p) (ty := ty) (t2 := t2) hi hu hie (cArg_rep hf hi hvd) (cArg_rep hf hi hvx) h
            simpa using this
          · simp at hc
        · simp at hc
      · simp at hc
    · simp at hc
  · -- min
    rename_i x y hargs
    have hargs' : args = #[x, y] := by apply Array.ext'; simpa using hargs
    refine fin (s := Builtin.min_ ts ty (args.map a.eval)) rfl ?_
    rw [hargs']
    split at hc
    · rename_i vx vy hvx hvy
      simp only [Option.some.injEq] at hc; subst hc
      simp only [VOp.map, vop] at h
      have hrx := cArg_rep hf hi hvx
      have hry := cArg_rep hf hi hvy
      split at h
      · rename_i k n k' m hx hy
        rw [hx] at hrx; rw [hy] at hry
        simp only [Rep] at hrx hry
        refine Sound.of_noIds h fun cc hcc => ?_
        simp only [Option.some.injEq] at hcc; subst hcc
        refine Sound.same (v := .int k (if m < n then m else n)) hi ?_ (by simp only [Rep])
        simp [Builtin.min_, hrx, hry, Builtin.min2]
      · simp at h
    · simp at hc
  · -- max
    rename_i x y hargs
    have hargs' : args = #[x, y] := by apply Array.ext'; simpa using hargs
    refine fin (s := Builtin.max_ ts ty (args.map a.eval)) rfl ?_
    rw [hargs']
    split at hc
    · rename_i vx vy hvx hvy
      simp only [Option.some.injEq] at hc; subst hc
      simp only [VOp.map, vop] at h
      have hrx := cArg_rep hf hi hvx
      have hry := cArg_rep hf hi hvy
      split at h
      · rename_i k n k' m hx hy
        rw [hx] at hrx; rw [hy] at hry
        simp only [Rep] at hrx hry
        refine Sound.of_noIds h fun cc hcc => ?_
        simp only [Option.some.injEq] at hcc; subst hcc
        refine Sound.same (v := .int k (if m > n then m else n)) hi ?_ (by simp only [Rep])
        simp [Builtin.max_, hrx, hry, Builtin.max2]
      · simp at h
    · simp at hc
  · simp at hc
theorem bytesOf_spec : ∀ {ys : List AV} {l : List UInt8}, bytesOf ys = some l → ∃ zs : List Int, ys = zs.map (AV.int .u8) ∧ l = zs.map fun n => UInt8.ofNat n.toNat
  | [], l, h => by simp only [bytesOf, Option.some.injEq] at h; subst h; exact ⟨[], rfl, rfl⟩
  | .int .u8 n :: r, l, h => by
    simp only [bytesOf, Option.map_eq_some_iff] at h
    obtain ⟨l', h1, rfl⟩ := h
    obtain ⟨zs, rfl, rfl⟩ := bytesOf_spec h1
    exact ⟨n :: zs, rfl, rfl⟩
theorem flat_ints (k : IntKind) : ∀ zs : List Int, flat (zs.map (AV.int k)) = zs.map (AV.int k)
  | [] => rfl
  | z :: zs => by have := flat_ints k zs; simp only [List.map_cons, flat, List.flatMap_cons, AV.cells] at this ⊢; rw [this]; rfl
theorem bytesStr_sound (hi : Inv G own E w σ) {src dst e : TypeId} (hs : P.underlying src = some (.slice e)) (he : P.underlying e = some (.int .u8)) (hd : P.underlying dst = some .string) {x : AV} {v : Value} (hx : Rep E w x v) {r : Res} (h : vbytesStr σ x = some r) :
    Sound P G own E w σ p (convert src dst v) r := by
  unfold vbytesStr at h
  split at h
  · rename_i ys rd hel
    simp only [Option.map_eq_some_iff] at h
    obtain ⟨l, hl, rfl⟩ := h
    obtain ⟨zs, rfl, rfl⟩ := bytesOf_spec hl
    obtain ⟨_, a, cap, rfl, hle, hr⟩ := elems_rep hi hx hel
    refine Sound.same (v := .string ⟨(zs.map fun n => UInt8.ofNat n.toNat).toArray⟩) hi ?_ (by simp [Rep])
    rcases hr with hr | ⟨b, o, rfl, hr⟩
    · have hz : zs = [] := by simpa using hr
      subst hz
      rw [run_convert_bytes_string w src dst e _ _ _ hs he hd]
      cases a with
      | none => simp [Conv.bytesToString]; rfl
      | some a =>
        rw [run_bytesToString w a _ _ [] (by simp [loadCells, loadCellsFrom])]
        rfl
    · rw [flat_ints] at hr
      have := run_convert_bytes_arg (P := P) w src e hs he b o zs.length cap zs rfl (fun i hil => by
        obtain ⟨v, h1, h2⟩ := hr i (.int .u8 zs[i]) (by rw [List.getElem?_map, List.getElem?_eq_getElem hil]; rfl)
        simp only [Rep] at h2
        subst h2
        have hplain : (⟨b, o, none⟩ : Addr).add i = ⟨b, o + i, none⟩ := by simp [Addr.add]
        first | rw [hplain] at h1 | skip
        rw [h1, List.getD_eq_getElem?_getD, List.getElem?_eq_getElem hil]; rfl) dst hd
      simpa [strOfNums] using this
  · simp at h
theorem op_sound0 (hi : Inv G own E w σ) (hμ : E.μ p = none) (hσ : σ p = none) {t : List AV} {a : Act} (hf : FrameRep E w t a) {o : Oper} {vo : VOp VArg} (hc : cOp0 P o.op = some vo) {r : Res}
    (h : vop σ p (vo.map (VArg.ev G t)) = some r) : OpDone P G own E w σ p r (execOp a.eval o) := by
  unfold execOp
  cases ho : o.op <;> rw [ho] at hc <;> simp only []
  case move x =>
    simp only [cOp0, Option.map_eq_some_iff] at hc; obtain ⟨va, hva, rfl⟩ := hc
    simp only [VOp.map, vop, noIds, Option.map_some, Option.some.injEq] at h; subst h
    exact ⟨a.eval x, w, E, .inl rfl, Adv.refl own E w, hi, cArg_rep hf hi hva, fun _ _ => rfl⟩
  case assign x =>
    simp only [cOp0, Option.map_eq_some_iff] at hc; obtain ⟨va, hva, rfl⟩ := hc
    simp only [VOp.map, vop, noIds, Option.map_some, Option.some.injEq] at h; subst h
    exact ⟨a.eval x, w, E, .inl rfl, Adv.refl own E w, hi, cArg_rep hf hi hva, fun _ _ => rfl⟩
  case pick c x y =>
    simp only [cOp0] at hc
    cases hvc : cArg c with
    | none => simp [hvc] at hc
    | some vc =>
    cases hvx : cArg x with
    | none => simp [hvc, hvx] at hc
    | some vx =>
    cases hvy : cArg y with
    | none => simp [hvc, hvx, hvy] at hc
    | some vy =>
      simp only [hvc, hvx, hvy, Option.some.injEq] at hc; subst hc
      simp only [VOp.map, vop] at h
      have hrc := cArg_rep hf hi hvc
      have hrx := cArg_rep hf hi hvx
      have hry := cArg_rep hf hi hvy
      split at h
      · rename_i b hb
        rw [hb] at hrc
        simp only [Rep] at hrc
        simp only [noIds, Option.map_some, Option.some.injEq] at h; subst h
        refine ⟨if b then a.eval x else a.eval y, w, E, .inl (by simp [hrc, asBool]), Adv.refl own E w, hi, ?_, fun _ _ => rfl⟩
        cases b
        · exact hry
        · exact hrx
      · simp at h
  case alloc ty =>
    simp only [cOp0, Option.map_eq_some_iff] at hc; obtain ⟨z, hz, rfl⟩ := hc
    simp only [VOp.map, vop, VArg.ev] at h
    obtain ⟨it, zv, hit, hzv, hzc, hzs, hzo⟩ := zeroAV_spec hz
    split at h
    · simp only [Option.some.injEq] at h; subst h
      have := box_sound (P := P) (p := p) hi hμ hσ (constAV_rep hzc) hzo ty
      refine OpDone.of ?_
      obtain ⟨v, w', E', hr, hp⟩ := this
      refine ⟨v, w', E', ?_, hp⟩
      simp only [Instr.alloc, Sem.run_bind, zeroValue_run hit hzv, Result.andThen_ok]
      exact hr
    · rename_i hno; exact absurd hzo hno
  case box ty x =>
    simp only [cOp0, Option.map_eq_some_iff] at hc; obtain ⟨va, hva, rfl⟩ := hc
    simp only [VOp.map, vop] at h
    split at h
    · rename_i hone
      simp only [Option.some.injEq] at h; subst h
      exact OpDone.of (box_sound hi hμ hσ (cArg_rep hf hi hva) hone ty)
    · simp at h
  case build ty ps => exact OpDone.of (build_sound hi hf hc h)
  case buildSlice ty n ps => exact OpDone.of (buildSl_sound hi hμ hσ hf hc h)
  case load ty x =>
    simp only [cOp0] at hc
    cases ha : isAggT P ty with
    | none => simp [ha] at hc
    | some g =>
    cases hti : P.info? ty with
    | none => simp [ha, hti] at hc
    | some i =>
    cases hvx : cArg x with
    | none => simp [ha, hti, hvx] at hc
    | some vx =>
      simp only [ha, hti, hvx] at hc
      split at hc
      · simp only [Option.some.injEq] at hc; subst hc
        simp only [VOp.map, vop] at h
        exact OpDone.of (vload_sound hi ha hti (cArg_rep hf hi hvx) h)
      · simp at hc
  case store ty x y =>
    simp only [cOp0] at hc
    cases hti : P.info? ty with
    | none => simp [hti] at hc
    | some i =>
    cases hvx : cArg x with
    | none => simp [hti, hvx] at hc
    | some vx =>
    cases hvy : cArg y with
    | none => simp [hti, hvx, hvy] at hc
    | some vy =>
      simp only [hti, hvx, hvy, Option.some.injEq] at hc; subst hc
      simp only [VOp.map, vop] at h
      exact OpDone.ofU (vstore_sound hi hti (cArg_rep hf hi hvx) (cArg_rep hf hi hvy) h)
  case nilCheck x =>
    simp only [cOp0, Option.map_eq_some_iff] at hc; obtain ⟨va, hva, rfl⟩ := hc
    simp only [VOp.map, vop] at h
    have hr := cArg_rep hf hi hva
    split at h
    · rename_i id e q hx
      simp only [noIds, Option.map_some, Option.some.injEq] at h; subst h
      rw [hx] at hr ⊢
      have hr' := hr
      simp only [Rep] at hr
      obtain ⟨g, k, N, hm, he⟩ := hr
      exact ⟨a.eval x, w, E, .inl (by rw [he]; rfl), Adv.refl own E w, hi, hr', fun _ _ => rfl⟩
    · rename_i cs q hx
      simp only [noIds, Option.map_some, Option.some.injEq] at h; subst h
      rw [hx] at hr ⊢
      have hr' := hr
      simp only [Rep] at hr
      obtain ⟨b, q, he, _⟩ := hr
      exact ⟨a.eval x, w, E, .inl (by rw [he]; rfl), Adv.refl own E w, hi, hr', fun _ _ => rfl⟩
    · rename_i f l1 l2 hx
      simp only [noIds, Option.map_some, Option.some.injEq] at h; subst h
      rw [hx] at hr ⊢
      have hr' := hr
      simp only [Rep] at hr
      obtain ⟨xs, ys, he, _⟩ := hr
      exact ⟨a.eval x, w, E, .inl (by rw [he]; rfl), Adv.refl own E w, hi, hr', fun _ _ => rfl⟩
    · simp at h
  case binOp op ty x y ty' =>
    simp only [cOp0] at hc
    cases hsh : shOf P ty with
    | none => simp [hsh] at hc
    | some sh =>
    cases hvx : cArg x with
    | none => simp [hsh, hvx] at hc
    | some vx =>
    cases hvy : cArg y with
    | none => simp [hsh, hvx, hvy] at hc
    | some vy =>
      simp only [hsh, hvx, hvy, Option.some.injEq] at hc; subst hc
      simp only [VOp.map, vop] at h
      refine OpDone.of (Sound.of_noIds h fun c hcc => ?_)
      unfold vbinq at hcc
      split at hcc
      · rename_i c' hcc'
        simp only [Option.some.injEq] at hcc; subst hcc
        obtain ⟨h1, h2, h3, h4⟩ := vbin_run (P := P) hsh hcc' (cArg_rep hf hi hvx) (cArg_rep hf hi hvy)
        refine Sound.same hi ?_ (rep_plain h2)
        simp only [Sem.run_bind, eqGuard_none op ty x y _ _ h3 h4, Result.andThen_ok]
        exact h1
      · obtain ⟨⟨q, h1, h2⟩, h3, h4⟩ := vnilq_run (P := P) hsh hcc (cArg_rep hf hi hvx) (cArg_rep hf hi hvy)
        refine Sound.same (v := .bool q) hi ?_ h1
        simp only [Sem.run_bind, eqGuard_none op ty x y _ _ h3 h4, Result.andThen_ok]
        exact h2
  case unOp op ty x =>
    simp only [cOp0, Option.map_eq_some_iff] at hc; obtain ⟨va, hva, rfl⟩ := hc
    simp only [VOp.map, vop] at h
    refine OpDone.of (Sound.of_noIds h fun c hcc => ?_)
    obtain ⟨h1, h2⟩ := vun_run (P := P) hcc (cArg_rep hf hi hva)
    exact Sound.same hi h1 (rep_plain h2)
  case convert src dst x =>
    simp only [cOp0] at hc
    split at hc
    · rename_i k1 k2 h1 h2
      simp only [Option.map_eq_some_iff] at hc; obtain ⟨va, hva, rfl⟩ := hc
      simp only [VOp.map, vop] at h
      have hr := cArg_rep hf hi hva
      split at h
      · rename_i k n hx
        rw [hx] at hr
        simp only [Rep] at hr
        simp only [noIds, Option.map_some, Option.some.injEq] at h; subst h
        refine OpDone.of (Sound.same (v := .int k2 (k2.wrap n)) hi ?_ (by simp [Rep]))
        rw [hr]
        simp [convert, run_underlying h1, run_underlying h2, Conv.intToInt]
      · simp at h
    · rename_i h1 h2
      simp only [Option.map_eq_some_iff] at hc; obtain ⟨va, hva, rfl⟩ := hc
      simp only [VOp.map, vop] at h
      have hr := cArg_rep hf hi hva
      split at h
      · rename_i l hx
        rw [hx] at hr h
        have hr' := hr
        simp only [Rep] at hr
        simp only [noIds, Option.map_some, Option.some.injEq] at h; subst h
        refine OpDone.of (Sound.same hi ?_ hr')
        rw [hr]
        simp [convert, run_underlying h1, run_underlying h2]
      · simp at h
    · rename_i e h1 h2
      split at hc
      · rename_i he
        simp only [Option.map_eq_some_iff] at hc; obtain ⟨va, hva, rfl⟩ := hc
        simp only [VOp.map, vop] at h
        exact OpDone.of (bytesStr_sound hi h1 he h2 (cArg_rep hf hi hva) h)
      · simp at hc
    · simp at hc
  case makeFunc fn first cap =>
    simp only [cOp0] at hc
    cases h1 : cArgs first with
    | none => simp [h1] at hc
    | some va =>
    cases h2 : cArgs cap with
    | none => simp [h1, h2] at hc
    | some vc =>
      simp only [h1, h2, Option.some.injEq] at hc; subst hc
      simp only [VOp.map, vop, noIds, Option.map_some, Option.some.injEq] at h; subst h
      refine OpDone.of (Sound.same (v := .func fn (first.map a.eval) (cap.map a.eval)) hi (by simp [Instr.makeFunc]) ?_)
      simp only [Rep]
      exact ⟨_, _, rfl, cArgs_rep hf hi h1, cArgs_rep hf hi h2⟩
  case makeSlice ty l c =>
    simp only [cOp0] at hc
    cases hu : P.underlying ty with
    | none => simp [hu] at hc
    | some d =>
    cases d <;> simp only [hu, reduceCtorEq] at hc
    rename_i e
    cases hie : P.info? e with
    | none => simp [hie] at hc
    | some i =>
    cases hz : zeroAV P e with
    | none => simp [hie, hz] at hc
    | some z =>
    cases hvl : cArg l with
    | none => simp [hie, hz, hvl] at hc
    | some vl =>
    cases hvc : cArg c with
    | none => simp [hie, hz, hvl, hvc] at hc
    | some vc =>
      simp only [hie, hz, hvl, hvc] at hc
      split at hc
      · rename_i hh
        simp only [Option.some.injEq] at hc; subst hc
        simp only [VOp.map, vop] at h
        exact OpDone.of (mksl_sound hi hμ hσ hu hie hz hh.1 (cArg_rep hf hi hvl) (cArg_rep hf hi hvc) h)
      · simp at hc
  case slice ty x lo hi' mx =>
    simp only [cOp0] at hc
    cases hu : P.underlying ty with
    | none => simp [hu] at hc
    | some d =>
    cases d <;> simp only [hu, reduceCtorEq] at hc
    case string =>
      cases hvx : cArg x with
      | none => simp [hvx] at hc
      | some vx =>
      cases hvl : cOpt lo with
      | none => simp [hvx, hvl] at hc
      | some vl =>
      cases hvh : cOpt hi' with
      | none => simp [hvx, hvl, hvh] at hc
      | some vh =>
      cases mx with
      | some _ => simp [hvx, hvl, hvh] at hc
      | none =>
        simp only [hvx, hvl, hvh, Option.some.injEq] at hc; subst hc
        simp only [VOp.map, vop] at h
        refine OpDone.of (Sound.of_noIds h fun c hcc => ?_)
        exact vsliceS_sound hi hu (cArg_rep hf hi hvx) (cOpt_rep hf hi hvl) (cOpt_rep hf hi hvh) hcc
    case slice e =>
      cases hie : P.info? e with
      | none => simp [hie] at hc
      | some i =>
      cases hvx : cArg x with
      | none => simp [hie, hvx] at hc
      | some vx =>
      cases hvl : cOpt lo with
      | none => simp [hie, hvx, hvl] at hc
      | some vl =>
      cases hvh : cOpt hi' with
      | none => simp [hie, hvx, hvl, hvh] at hc
      | some vh =>
      cases hvm : cOpt mx with
      | none => simp [hie, hvx, hvl, hvh, hvm] at hc
      | some vm =>
        simp only [hie, hvx, hvl, hvh, hvm] at hc
        split at hc
        · rename_i hh
          simp only [Option.some.injEq] at hc; subst hc
          simp only [VOp.map, vop] at h
          exact OpDone.of (vsliceR_sound hi hu hie (cArg_rep hf hi hvx) (cOpt_rep hf hi hvl) (cOpt_rep hf hi hvh) (cOpt_rep hf hi hvm) (by simpa using hh) h)
        · simp at hc
  case fieldAddr s x f =>
    simp only [cOp0] at hc
    cases hu : P.underlying s with
    | none => simp [hu] at hc
    | some d =>
    cases d <;> simp only [hu, reduceCtorEq] at hc
    rename_i fs
    cases hfd : fs[f]? with
    | none => simp [hfd] at hc
    | some fd =>
    simp only [hfd] at hc
    cases hie : P.info? fd.type with
    | none => simp [hie] at hc
    | some i =>
    cases hvx : cArg x with
    | none => simp [hie, hvx] at hc
    | some vx =>
      simp only [hie, hvx] at hc
      split at hc
      · simp at hc
      · rename_i h0
        simp only [Option.some.injEq] at hc; subst hc
        exact OpDone.of (faddr_sound hi hu hfd hie h0 (cArg_rep hf hi hvx) h)
  case field s x f =>
    simp only [cOp0] at hc
    cases hu : P.underlying s with
    | none => simp [hu] at hc
    | some d =>
    cases d <;> simp only [hu, reduceCtorEq] at hc
    rename_i fs
    cases hfd : fs[f]? with
    | none => simp [hfd] at hc
    | some fd =>
    simp only [hfd] at hc
    cases hag : isAggT P fd.type with
    | none => simp [hag] at hc
    | some g =>
    cases hie : P.info? fd.type with
    | none => simp [hag, hie] at hc
    | some i =>
    cases hvx : cArg x with
    | none => simp [hag, hie, hvx] at hc
    | some vx =>
      simp only [hag, hie, hvx, Option.some.injEq] at hc; subst hc
      simp only [VOp.map, vop] at h
      have hr := cArg_rep hf hi hvx
      split at h
      · rename_i cs hx
        rw [hx] at hr
        simp only [Rep] at hr
        obtain ⟨xs, he, hr⟩ := hr
        refine OpDone.of (Sound.of_noIds h fun c hcc => ?_)
        obtain ⟨v, hv, hrv⟩ := part_run (P := P) hag hie hr hcc
        refine Sound.same hi ?_ hrv
        rw [he]
        simp [Instr.field, run_underlying hu, hfd, asAgg, hv]
      · simp at h
  case indexAddr ty x ix =>
    simp only [cOp0] at hc
    cases hu : P.underlying ty with
    | none => simp [hu] at hc
    | some d =>
    cases d <;> simp only [hu, reduceCtorEq] at hc
    case slice e =>
      cases hie : P.info? e with
      | none => simp [hie] at hc
      | some i =>
      cases hvx : cArg x with
      | none => simp [hie, hvx] at hc
      | some vx =>
      cases hvi : cArg ix with
      | none => simp [hie, hvx, hvi] at hc
      | some vi =>
        simp only [hie, hvx, hvi, Option.some.injEq] at hc; subst hc
        simp only [VOp.map, vop] at h
        refine OpDone.of (Sound.of_noIds h fun c hcc => ?_)
        exact iaddrS_sound hi hu hie (cArg_rep hf hi hvx) (cArg_rep hf hi hvi) hcc
    case array n e =>
      cases hie : P.info? e with
      | none => simp [hie] at hc
      | some i =>
      cases hvx : cArg x with
      | none => simp [hie, hvx] at hc
      | some vx =>
      cases hvi : cArg ix with
      | none => simp [hie, hvx, hvi] at hc
      | some vi =>
        simp only [hie, hvx, hvi, Option.some.injEq] at hc; subst hc
        simp only [VOp.map, vop] at h
        refine OpDone.of (Sound.of_noIds h fun c hcc => ?_)
        exact iaddrA_sound hi hu hie (cArg_rep hf hi hvx) (cArg_rep hf hi hvi) hcc
  case index ty x ix =>
    simp only [cOp0] at hc
    cases hu : P.underlying ty with
    | none => simp [hu] at hc
    | some d =>
    cases d <;> simp only [hu, reduceCtorEq] at hc
    case string =>
      cases hvx : cArg x with
      | none => simp [hvx] at hc
      | some vx =>
      cases hvi : cArg ix with
      | none => simp [hvx, hvi] at hc
      | some vi =>
        simp only [hvx, hvi, Option.some.injEq] at hc; subst hc
        simp only [VOp.map, vop] at h
        have hr := cArg_rep hf hi hvx
        have hri := cArg_rep hf hi hvi
        split at h
        · rename_i s k n hx hn
          rw [hx] at hr; rw [hn] at hri
          simp only [Rep] at hr hri
          split at h
          · rename_i h0
            refine OpDone.of (Sound.of_noIds h fun c hcc => ?_)
            simp only [Option.map_eq_some_iff] at hcc
            obtain ⟨b, hb, rfl⟩ := hcc
            refine Sound.same (v := .int .u8 b.toNat) hi ?_ (by simp [Rep])
            rw [hr, hri]
            have hb' : (ByteArray.mk s.toArray)[n.toNat]? = some b := by
              have hlt := (List.getElem?_eq_some_iff.1 hb)
              obtain ⟨h1, h2⟩ := hlt
              rw [getElem?_pos (ByteArray.mk s.toArray) n.toNat (by simpa [ByteArray.size] using h1)]
              congr 1
            simp [Instr.index, run_underlying hu, asIntOf, h0, hb']
          · simp at h
        · simp at h
    case array n e =>
      cases hag : isAggT P e with
      | none => simp [hag] at hc
      | some g =>
      cases hie : P.info? e with
      | none => simp [hag, hie] at hc
      | some i =>
      cases hvx : cArg x with
      | none => simp [hag, hie, hvx] at hc
      | some vx =>
      cases hvi : cArg ix with
      | none => simp [hag, hie, hvx, hvi] at hc
      | some vi =>
        simp only [hag, hie, hvx, hvi, Option.some.injEq] at hc; subst hc
        simp only [VOp.map, vop] at h
        have hr := cArg_rep hf hi hvx
        have hri := cArg_rep hf hi hvi
        split at h
        · rename_i cs k m hx hn
          rw [hx] at hr; rw [hn] at hri
          simp only [Rep] at hr hri
          obtain ⟨xs, he, hr⟩ := hr
          split at h
          · rename_i h0
            refine OpDone.of (Sound.of_noIds h fun c hcc => ?_)
            obtain ⟨v, hv, hrv⟩ := part_run (P := P) hag hie hr hcc
            refine Sound.same hi ?_ hrv
            rw [he, hri]
            simp [Instr.index, run_underlying hu, asIntOf, h0, sizeOf_run hie, hv]
          · simp at h
        · simp at h
  case extract x i =>
    simp only [cOp0, Option.map_eq_some_iff] at hc; obtain ⟨va, hva, rfl⟩ := hc
    simp only [VOp.map, vop] at h
    have hr := cArg_rep hf hi hva
    split at h
    · rename_i vs hx
      rw [hx] at hr
      simp only [Rep] at hr
      obtain ⟨xs, he, hr⟩ := hr
      refine OpDone.of (Sound.of_noIds h fun c hcc => ?_)
      obtain ⟨v, hv, hrv⟩ := (repL_iff.1 hr).2 i c hcc
      refine Sound.same hi ?_ hrv
      rw [he]
      simp at hv
      simp [Instr.extract, hv]
    · simp at h
  case call c =>
    simp only [cOp0] at hc
    cases hcal : c.callee with
    | value f =>
      simp only [hcal] at hc
      split at hc
      · split at hc
        · simp only [Option.some.injEq] at hc; subst hc
          simp [VOp.map, vop] at h
        · simp at hc
      · rename_i k hk
        unfold cExt at hc
        split at hc
        · rename_i x y hargs
          split at hc
          · rename_i vx vy hvx hvy
            simp only [Option.some.injEq] at hc; subst hc
            cases k with
            | idx =>
              simp only [VOp.map, vop] at h
              have hh := idx_sound (p := p) ho hcal hk hargs hi (cArg_rep hf hi hvx) (cArg_rep hf hi hvy) h
              unfold execOp at hh; simp only [ho] at hh; exact hh
            | ovl =>
              simp only [VOp.map, vop] at h
              have hh := ovl_sound (p := p) ho hcal hk hargs hi (cArg_rep hf hi hvx) (cArg_rep hf hi hvy) h
              unfold execOp at hh; simp only [ho] at hh; exact hh
          · simp at hc
        · simp at hc
    | invoke _ _ => simp [hcal] at hc
    | builtin b =>
      simp only [hcal] at hc
      have hres : ∀ w, (do let d ← resolve a.eval c o.type; invoke d.target d.args : Sem Next).run P w =
          (builtin b c.argTypes o.type (c.args.map fun | .const _ => true | _ => false) (c.args.map a.eval)).run P w := by
        intro w; simp [resolve, hcal, invoke]; rfl
      have fin : ∀ {s : Sem Value}, builtin b c.argTypes o.type (c.args.map fun | .const _ => true | _ => false) (c.args.map a.eval) = (do pure (.value (← s))) → Sound P G own E w σ p s r →
          OpDone P G own E w σ p r (do let d ← resolve a.eval c o.type; invoke d.target d.args) := by
        intro s he hs
        obtain ⟨v, w', E', hr, hp⟩ := hs
        exact ⟨v, w', E', .inl (by rw [hres, he]; simp [hr]), hp⟩
      exact builtin_sound hi hμ hσ hf hc h fin
  all_goals simp [cOp0] at hc
theorem op_sound (hi : Inv G own E w σ) (hμ : E.μ p = none) (hσ : σ p = none) {t : List AV} {a : Act} (hf : FrameRep E w t a) {o : Oper} {vo : VOp VArg} (hc : cOp P o.op = some vo) {r : Res}
    (h : vop σ p (vo.map (VArg.ev G t)) = some r) : OpDone P G own E w σ p r (execOp a.eval o) := by
  unfold cOp at hc
  split at hc
  · rename_i v hv
    simp only [Option.some.injEq] at hc; subst hc
    exact op_sound0 hi hμ hσ hf hv h
  · simp only [Option.some.injEq] at hc; subst hc
    simp [VOp.map, vop] at h
end
end Go.VL
end

section
namespace Go.VL
def CallRel (P : Program) (G : Nat → Option (List AV)) (f : FuncId) (args : List AV) (p : Id) (S : List (Id × Blk)) (r : Res) : Prop :=
  (∃ fn, P.funcs[f]? = some fn ∧ (fn.name == "runtime.NumGoroutine") = false ∧ fn.body.isSome = true) ∧
  ∀ own E w σ vs, (∀ x ∈ S, σ x.1 = some x.2) → Inv G own E w σ → RepL E w args vs → (∀ j, p <:+ j → E.μ j = none) →
    Calls P f vs.toArray w fun e w' => ∃ v E', e = .returned v ∧ OpPost G own E w σ p r v E' w'
def stepRel (P : Program) (G : Nat → Option (List AV)) (σ : Store) (p : Id) (op : VOp AV) (r : Res) : Prop :=
  match op with
  | .call f as => match f with
    | .fn (.func f) first cap => ∃ S, CallRel P G f (first ++ as ++ cap) p S r ∧ (∀ x ∈ S, σ x.1 = some x.2) ∧ ∀ x ∈ S, x.1 ∈ r.rd
    | _ => False
  | op => vop σ p op = some r
def putT (t : List AV) (d : Option Nat) (v : AV) : List AV := match d with | some d => t.set d v | none => t
def vwanted (t : List AV) : Option (Nat × Bool) → Option Bool
  | none => some true
  | some (d, want) => match t[d]? with
    | some (.bool b) => some (b == want)
    | some .top | some .anyb => none
    | _ => some false
section
variable {P : Program} {G : Nat → Option (List AV)} {own : Nat → Prop} {E : Env} {w : World} {σ : Store} {p : Id}
theorem FrameRep.keep {E' : Env} {w' : World} {t : List AV} {a : Act} (h : FrameRep E w t a) (s : Step E E' w w') : FrameRep E' w' t a := RepL.keep s t _ h
theorem FrameRep.put {t : List AV} {a : Act} (h : FrameRep E w t a) {c : AV} {v : Value} (hv : Rep E w c v) (d : Option Nat) : FrameRep E w (putT t d c) (a.put d v) := by
  cases d with
  | none => exact h
  | some d =>
    obtain ⟨hl, hp⟩ := repL_iff.1 h
    refine repL_iff.2 ⟨by simpa [putT, Act.put] using hl, fun j c' hj => ?_⟩
    simp only [putT, List.getElem?_set] at hj
    simp only [Act.put, Array.toList_setIfInBounds, List.getElem?_set]
    split at hj
    · rename_i e
      subst e
      split at hj
      · rename_i hlt
        simp only [Option.some.injEq] at hj; subst hj
        exact ⟨v, by rw [if_pos rfl, if_pos (by omega)], hv⟩
      · simp at hj
    · rename_i e
      rw [if_neg e]
      exact hp j c' hj
theorem FrameRep.at? {t : List AV} {a : Act} (h : FrameRep E w t a) (d : Nat) : (t[d]? = none ∧ a.tmps[d]? = none) ∨ ∃ c v, t[d]? = some c ∧ a.tmps[d]? = some v ∧ Rep E w c v := by
  obtain ⟨hl, hp⟩ := repL_iff.1 h
  by_cases hd : d < t.length
  · right
    obtain ⟨v, hv, hr⟩ := hp d t[d] (by simp [hd])
    exact ⟨t[d], v, by simp [hd], by simpa using hv, hr⟩
  · left
    have : a.tmps.size ≤ d := by have := hl; simp at this; omega
    exact ⟨by simp; omega, by simp; omega⟩
theorem rep_not_bool {c : AV} {v : Value} (h : Rep E w c v) (h1 : ∀ b, c ≠ .bool b) (h2 : c ≠ .top) (h3 : c ≠ .anyb) : ∀ b, v ≠ .bool b := by
  intro b e
  subst e
  cases c <;> simp only [Rep, reduceCtorEq, exists_const, false_and, and_false] at h
  · exact h1 _ rfl
  all_goals first
    | exact h2 rfl
    | exact h3 rfl
    | (obtain ⟨_, _, h, _⟩ := h; cases h)
    | (obtain ⟨_, h, _⟩ := h; cases h)
    | (obtain ⟨_, _, h⟩ := h; cases h)
theorem wanted_iff {ops : Array Oper} {o : Oper} {vo : VOper} (hc : cOper P ops o = some vo) {t : List AV} {a : Act} (hf : FrameRep E w t a) {b : Bool} (h : vwanted t vo.guard = some b) : Region.wanted o (yielded ops a.tmps) = b := by
  unfold cOper at hc
  cases hop : cOp P o.op with
  | none => simp [hop] at hc
  | some op =>
    simp only [hop] at hc
    cases hg : o.guard with
    | none =>
      simp only [hg, Option.some.injEq] at hc; subst hc
      simp only [vwanted, Option.some.injEq] at h; subst h
      simp [Region.wanted, hg]
    | some jw =>
      obtain ⟨j, want⟩ := jw
      simp only [hg] at hc
      cases hd : (ops[j]?).bind (·.dst) with
      | none => simp [hd] at hc
      | some d =>
        simp only [hd, Option.some.injEq] at hc; subst hc
        simp only [vwanted] at h
        simp only [Region.wanted, hg, yielded, hd, Option.bind_some]
        rcases hf.at? d with ⟨h1, h2⟩ | ⟨c, v, h1, h2, hr⟩
        · simp only [h1, Option.some.injEq] at h; subst h
          simp [h2]
        · simp only [h1] at h
          simp only [h2]
          cases c with
          | bool b' =>
            simp only [Option.some.injEq] at h; subst h
            simp only [Rep] at hr; subst hr
            simp
          | top => simp at h
          | anyb => simp at h
          | _ =>
            simp only [Option.some.injEq] at h; subst h
            have hnb := rep_not_bool hr (by simp) (by simp) (by simp)
            cases v <;> simp at hnb ⊢
theorem cOper_op {ops : Array Oper} {o : Oper} {vo : VOper} (hc : cOper P ops o = some vo) : cOp P o.op = some vo.op ∧ vo.dst = o.dst := by
  unfold cOper at hc
  cases hop : cOp P o.op with
  | none => simp [hop] at hc
  | some op =>
    simp only [hop] at hc
    split at hc
    · simp only [Option.some.injEq] at hc; subst hc; simp_all
    · split at hc
      · simp only [Option.some.injEq] at hc; subst hc; simp_all
      · simp at hc
    · simp_all
theorem cExt_ne {k : ExtK} {l : List Operand} (f : VArg) (as : List VArg) : cExt k l ≠ some (.call f as) := by
  unfold cExt
  split
  · split
    · cases k <;> simp
    · simp
  · simp
theorem step_sound (hi : Inv G own E w σ) (hμ : ∀ j, p <:+ j → E.μ j = none) {t : List AV} {a : Act} (hf : FrameRep E w t a) {o : Oper} {vo : VOp VArg} (hc : cOp P o.op = some vo) {r : Res}
    (h : stepRel P G σ p (vo.map (VArg.ev G t)) r) {K : Act → World → Prop} {Q : Exit → Act → World → Prop} (hK : ∀ v w' E', OpPost G own E w σ p r v E' w' → K (a.put o.dst v) w') : o.wp P a w K Q := by
  have hσ : σ p = none := by
    cases hs : σ p with
    | none => rfl
    | some bk => obtain ⟨g, N, cur, ty, hB⟩ := hi.blk _ _ hs; have := hB.μ; rw [hμ _ (List.suffix_refl _)] at this; simp at this
  have plain : vop σ p (vo.map (VArg.ev G t)) = some r → o.wp P a w K Q := by
    intro hv
    obtain ⟨v, w', E', hrun, hp⟩ := op_sound hi (hμ p (List.suffix_refl _)) hσ hf hc hv
    unfold Oper.wp
    rcases hrun with hrun | ⟨hrun, rfl⟩
    · rw [hrun]; exact hK v w' E' hp
    · rw [hrun]; exact hK undef w' E' hp
  cases vo with
  | call f as =>
    replace hc : cOp0 P o.op = some (.call f as) := by
      unfold cOp at hc
      split at hc
      · rename_i v hv; rw [hv]; exact hc
      · simp at hc
    simp only [VOp.map, stepRel] at h
    split at h
    · rename_i f' fid first cap hfe
      obtain ⟨S, hcall, hS, _⟩ := h
      obtain ⟨⟨fn, hfn, hname, hbody⟩, hcall⟩ := hcall
      cases hop : o.op with
      | call c =>
        rw [hop] at hc
        simp only [cOp0] at hc
        cases hcal : c.callee with
        | value fo =>
          simp only [hcal] at hc
          split at hc
          case h_2 => exact absurd hc (cExt_ne _ _)
          split at hc
          · rename_i vf vas h1 h2
            simp only [Option.some.injEq, VOp.call.injEq] at hc
            obtain ⟨rfl, rfl⟩ := hc
            have hrf := cArg_rep hf hi h1
            rw [hfe] at hrf
            simp only [Rep] at hrf
            obtain ⟨xs, ys, hfv, hx, hy⟩ := hrf
            have hra := cArgs_rep hf hi h2
            have hargs : RepL E w (first ++ vas.map (VArg.ev G t) ++ cap) (xs.toList ++ (c.args.map a.eval).toList ++ ys.toList) := RepL.append (RepL.append hx hra) hy
            have hcl := hcall own E w σ _ hS hi hargs hμ
            have hrun : (execOp a.eval o).run P w = .ok (.enter fid (xs ++ c.args.map a.eval ++ ys)) w := by
              have hnb : ¬ fn.body = none := by intro e; simp [e] at hbody
              have hnn : ¬ fn.name = "runtime.NumGoroutine" := by intro e; simp [e] at hname
              simp [execOp, hop, resolve, hcal, hfv, Deferred.ofValue, invoke, callFunc, hfn, hnn, hnb]
            unfold Oper.wp
            rw [hrun, Oper.upon_enter]
            have hae : (xs.toList ++ (c.args.map a.eval).toList ++ ys.toList).toArray = xs ++ c.args.map a.eval ++ ys := by apply Array.ext'; simp
            rw [hae] at hcl
            refine hcl.mono fun e w' he => ?_
            obtain ⟨v, E', rfl, hp⟩ := he
            exact hK v w' E' hp
          · simp at hc
        | invoke _ _ => simp [hcal] at hc
        | builtin b =>
          simp only [hcal] at hc
          unfold cBuiltin at hc
          split at hc <;> (try split at hc) <;> (try split at hc) <;> (try split at hc) <;> (try split at hc) <;> simp at hc
      | _ =>
        rw [hop] at hc
        simp only [cOp0] at hc
        exfalso
        revert hc
        clear plain hfe
        intro hc
        first
          | simp at hc
          | (simp only [Option.map_eq_some_iff] at hc; obtain ⟨_, _, hc⟩ := hc; cases hc)
          | ((repeat' split at hc) <;> first | (simp at hc; done) | (simp only [Option.map_eq_some_iff] at hc; obtain ⟨_, _, hc⟩ := hc; cases hc) | (cases hc))
    · exact h.elim
  | _ => exact plain h
end
end Go.VL
end

section
namespace Go.VL
abbrev Done := Option Nat × Res
def foldT (X : Nat → Bool) : List Done → Nat → List AV → List AV
  | [], _, t => t
  | (d, r) :: L, i, t => foldT X L (i + 1) (if X i then putT t d r.val else t)
def foldS (X : Nat → Bool) : List Done → Nat → Store → Store
  | [], _, σ => σ
  | (_, r) :: L, i, σ => foldS X L (i + 1) (if X i then σ.app r.up else σ)
theorem putT_get (t : List AV) (d : Option Nat) (v : AV) (s : Nat) : (putT t d v)[s]? = if d = some s then (if s < t.length then some v else none) else t[s]? := by
  cases d with
  | none => simp [putT]
  | some d =>
    simp only [putT, List.getElem?_set, Option.some.injEq]
    by_cases e : d = s
    · subst e; simp
    · simp [e]
theorem putT_len (t : List AV) (d : Option Nat) (v : AV) : (putT t d v).length = t.length := by cases d <;> simp [putT]
theorem foldT_len (X : Nat → Bool) : ∀ (L : List Done) (i : Nat) (t : List AV), (foldT X L i t).length = t.length
  | [], _, _ => rfl
  | (d, r) :: L, i, t => by
    simp only [foldT]; rw [foldT_len X L]
    split
    · exact putT_len t d r.val
    · rfl
theorem lt_of_get {t t' : List AV} {s : Nat} (h : t[s]? = t'[s]?) : (s < t.length) = (s < t'.length) := by
  have h1 : s < t.length ↔ t[s]? ≠ none := by simp
  have h2 : s < t'.length ↔ t'[s]? ≠ none := by simp
  exact propext (h1.trans ((by rw [h] : t[s]? ≠ none ↔ t'[s]? ≠ none).trans h2.symm))
theorem foldT_congr {X Y : Nat → Bool} {s : Nat} : ∀ (L : List Done) (i : Nat) (t t' : List AV), t[s]? = t'[s]? → (∀ k d r, L[k]? = some (d, r) → X (i + k) ≠ Y (i + k) → d ≠ some s) → (foldT X L i t)[s]? = (foldT Y L i t')[s]?
  | [], _, _, _, h, _ => h
  | (d, r) :: L, i, t, t', h, hd => by
    simp only [foldT]
    refine foldT_congr L (i + 1) _ _ ?_ (fun k d' r' hk hne => hd (k + 1) d' r' (by simpa using hk) (by rwa [show i + (k + 1) = i + 1 + k from by omega]))
    by_cases hx : X i = Y i
    · rw [hx]
      split
      · rw [putT_get, putT_get]; simp only [lt_of_get h, h]
      · exact h
    · have := hd 0 d r rfl hx
      have e1 : (putT t d r.val)[s]? = t[s]? := by rw [putT_get, if_neg this]
      have e2 : (putT t' d r.val)[s]? = t'[s]? := by rw [putT_get, if_neg this]
      split <;> split <;> simp only [e1, e2, h]
theorem Store.app_congr {σ σ' : Store} {id : Id} (h : σ id = σ' id) : ∀ (up : List (Id × Option Blk)), (σ.app up) id = (σ'.app up) id := by
  intro up
  induction up generalizing σ σ' with
  | nil => exact h
  | cons x up ih =>
    obtain ⟨i, b⟩ := x
    simp only [Store.app]
    refine ih ?_
    simp only [Store.put]
    split <;> first | rfl | exact h
theorem Store.app_other {σ : Store} {id : Id} : ∀ {up : List (Id × Option Blk)}, id ∉ up.map (·.1) → (σ.app up) id = σ id := by
  intro up
  induction up generalizing σ with
  | nil => intro _; rfl
  | cons x up ih =>
    obtain ⟨i, b⟩ := x
    intro h
    simp only [List.map_cons, List.mem_cons, not_or] at h
    simp only [Store.app]
    rw [ih h.2, Store.put_other _ _ _ h.1]
theorem Store.app_in {σ σ' : Store} {id : Id} : ∀ {up : List (Id × Option Blk)}, id ∈ up.map (·.1) → (σ.app up) id = (σ'.app up) id := by
  intro up
  induction up generalizing σ σ' with
  | nil => intro h; simp at h
  | cons x up ih =>
    obtain ⟨i, b⟩ := x
    intro h
    simp only [Store.app]
    by_cases hin : id ∈ up.map (·.1)
    · exact ih hin
    · have he : id = i := by simpa [hin] using h
      subst he
      rw [Store.app_other hin, Store.app_other hin, Store.put_same, Store.put_same]
theorem foldS_congr {X Y : Nat → Bool} {id : Id} : ∀ (L : List Done) (i : Nat) (σ σ' : Store), σ id = σ' id → (∀ k d r, L[k]? = some (d, r) → X (i + k) ≠ Y (i + k) → id ∉ r.up.map (·.1)) → foldS X L i σ id = foldS Y L i σ' id
  | [], _, _, _, h, _ => h
  | (d, r) :: L, i, σ, σ', h, hd => by
    simp only [foldS]
    refine foldS_congr L (i + 1) _ _ ?_ (fun k d' r' hk hne => hd (k + 1) d' r' (by simpa using hk) (by rwa [show i + (k + 1) = i + 1 + k from by omega]))
    by_cases hx : X i = Y i
    · rw [hx]
      split
      · exact Store.app_congr h _
      · exact h
    · have := hd 0 d r rfl hx
      split <;> split <;> simp only [Store.app_other this, h]
theorem foldT_last {X : Nat → Bool} {s : Nat} {r : Res} : ∀ (L : List Done) (i j : Nat) (t : List AV), L[j]? = some (some s, r) → X (i + j) = true → (∀ k d r', L[k]? = some (d, r') → j < k → X (i + k) = true → d ≠ some s) →
    (foldT X L i t)[s]? = if s < t.length then some r.val else none
  | [], _, _, _, h, _, _ => by simp at h
  | (d, r') :: L, i, 0, t, h, hx, hd => by
    simp only [List.getElem?_cons_zero, Option.some.injEq, Prod.mk.injEq] at h
    obtain ⟨rfl, rfl⟩ := h
    simp only [foldT]
    rw [Nat.add_zero] at hx
    rw [if_pos hx]
    have := foldT_congr (X := X) (Y := fun _ => false) (s := s) L (i + 1) (putT t (some s) r'.val) (putT t (some s) r'.val) rfl (fun k d r2 hk hne => hd (k + 1) d r2 (by simpa using hk) (by omega) (by
      rw [show i + (k + 1) = i + 1 + k from by omega]
      cases hh : X (i + 1 + k) with
      | true => rfl
      | false => simp [hh] at hne))
    rw [this]
    have none : ∀ (L : List Done) (i : Nat) (t : List AV), foldT (fun _ => false) L i t = t := by
      intro L
      induction L with
      | nil => intro _ _; rfl
      | cons x L ih => intro i t; obtain ⟨d, r⟩ := x; simp only [foldT]; rw [ih]; simp
    rw [none, putT_get, if_pos rfl]
  | (d, r') :: L, i, j + 1, t, h, hx, hd => by
    simp only [foldT]
    have := foldT_last L (i + 1) j (if X i then putT t d r'.val else t) (by simpa using h) (by rwa [show i + 1 + j = i + (j + 1) from by omega])
      (fun k d r2 hk hlt hxk => hd (k + 1) d r2 (by simpa using hk) (by omega) (by rwa [show i + (k + 1) = i + 1 + k from by omega]))
    rw [this]
    split <;> simp [putT_len]
theorem foldS_last {X : Nat → Bool} {id : Id} {d : Option Nat} {r : Res} {σ' : Store} : ∀ (L : List Done) (i j : Nat) (σ : Store), L[j]? = some (d, r) → X (i + j) = true → id ∈ r.up.map (·.1) →
    (∀ k d r', L[k]? = some (d, r') → j < k → X (i + k) = true → id ∉ r'.up.map (·.1)) → foldS X L i σ id = (σ'.app r.up) id
  | [], _, _, _, h, _, _, _ => by simp at h
  | (d', r') :: L, i, 0, σ, h, hx, hin, hd => by
    simp only [List.getElem?_cons_zero, Option.some.injEq, Prod.mk.injEq] at h
    obtain ⟨rfl, rfl⟩ := h
    simp only [foldS]
    rw [Nat.add_zero] at hx
    rw [if_pos hx]
    have := foldS_congr (X := X) (Y := fun _ => false) (id := id) L (i + 1) (σ.app r'.up) (σ.app r'.up) rfl (fun k d r2 hk hne => hd (k + 1) d r2 (by simpa using hk) (by omega) (by
      rw [show i + (k + 1) = i + 1 + k from by omega]
      cases hh : X (i + 1 + k) with
      | true => rfl
      | false => simp [hh] at hne))
    rw [this]
    have none : ∀ (L : List Done) (i : Nat) (σ : Store), foldS (fun _ => false) L i σ = σ := by
      intro L
      induction L with
      | nil => intro _ _; rfl
      | cons x L ih => intro i t; obtain ⟨d, r⟩ := x; simp only [foldS]; rw [ih]; simp
    rw [none]
    exact Store.app_in hin
  | (d', r') :: L, i, j + 1, σ, h, hx, hin, hd => by
    simp only [foldS]
    exact foldS_last L (i + 1) j _ (by simpa using h) (by rwa [show i + 1 + j = i + (j + 1) from by omega]) hin
      (fun k d r2 hk hlt hxk => hd (k + 1) d r2 (by simpa using hk) (by omega) (by rwa [show i + (k + 1) = i + 1 + k from by omega]))
theorem foldT_of_none {X : Nat → Bool} : ∀ (L : List Done) (i : Nat) (t : List AV), (∀ k, k < L.length → X (i + k) = false) → foldT X L i t = t
  | [], _, _, _ => rfl
  | (d, r) :: L, i, t, h => by
    simp only [foldT]
    have := h 0 (by simp)
    rw [Nat.add_zero] at this
    rw [this]
    exact foldT_of_none L (i + 1) t (fun k hk => by rw [show i + 1 + k = i + (k + 1) from by omega]; exact h (k + 1) (by simpa using hk))
theorem foldS_of_none {X : Nat → Bool} : ∀ (L : List Done) (i : Nat) (σ : Store), (∀ k, k < L.length → X (i + k) = false) → foldS X L i σ = σ
  | [], _, _, _ => rfl
  | (d, r) :: L, i, t, h => by
    simp only [foldS]
    have := h 0 (by simp)
    rw [Nat.add_zero] at this
    rw [this]
    exact foldS_of_none L (i + 1) t (fun k hk => by rw [show i + 1 + k = i + (k + 1) from by omega]; exact h (k + 1) (by simpa using hk))
section
variable (P : Program) (G : Nat → Option (List AV)) (π : Id)
def vstep (σ : Store) (p : Id) (op : VOp AV) (K : Res → Prop) : Prop :=
  match op with
  | .call f as => match f with
    | .fn (.func f) first cap => ∃ S r, CallRel P G f (first ++ as ++ cap) p S r ∧ (∀ x ∈ S, σ x.1 = some x.2) ∧ (∀ x ∈ S, x.1 ∈ r.rd) ∧ K r
    | _ => False
  | op => match vop σ p op with
    | some r => K r
    | none => False
def vseq (base : Nat) (K : List AV → Store → Prop) : List VOper → Nat → List AV → Store → Prop
  | [], _, t, σ => K t σ
  | o :: os, i, t, σ => match vwanted t o.guard with
    | none => False
    | some false => vseq base K os (i + 1) (putT t o.dst (.tup [])) σ
    | some true => vstep P G σ ((base + i) :: π) (o.op.map (VArg.ev G t)) fun r => vseq base K os (i + 1) (putT t o.dst r.val) (σ.app r.up)
def vpar (base : Nat) (K : List Res → List AV → Store → Prop) : List VOper → Nat → List Res → List AV → Store → Prop
  | [], _, acc, t, σ => K acc.reverse t σ
  | o :: os, i, acc, t, σ => match vwanted t o.guard with
    | none => False
    | some false => vpar base K os (i + 1) ({ val := .tup [] } :: acc) (putT t o.dst (.tup [])) σ
    | some true => vstep P G σ ((base + i) :: π) (o.op.map (VArg.ev G t)) fun r => vpar base K os (i + 1) (r :: acc) (putT t o.dst r.val) (σ.app r.up)
def apart (a b : Res) : Prop := (∀ x ∈ a.up, x.1 ∉ b.rd ∧ x.1 ∉ b.up.map (·.1)) ∧ ∀ x ∈ b.up, x.1 ∉ a.rd
def allApart (rs : List Res) (ps : List (Nat × Nat)) : Prop := ∀ q ∈ ps, ∀ a b, rs[q.1]? = some a → rs[q.2]? = some b → apart a b
def stepCond (base : Nat) (o : VOper) (k : Nat) (t : List AV) (σ : Store) (r : Res) : Prop :=
  (vwanted t o.guard = some false ∧ r = { val := .tup [] }) ∨ (vwanted t o.guard = some true ∧ stepRel P G σ ((base + k) :: π) (o.op.map (VArg.ev G t)) r)
end
section
variable {P : Program} {G : Nat → Option (List AV)} {π : Id} {own : Nat → Prop} {E : Env} {w : World} {σ : Store}
theorem vstep_spec {σ : Store} {p : Id} {op : VOp AV} {K : Res → Prop} (h : vstep P G σ p op K) : ∃ r, stepRel P G σ p op r ∧ K r := by
  unfold vstep at h
  cases op with
  | call f as =>
    simp only [] at h
    split at h
    · obtain ⟨S, r, h1, h2, h3, h4⟩ := h
      exact ⟨r, ⟨S, h1, h2, h3⟩, h4⟩
    · exact h.elim
  | _ =>
    simp only [] at h
    split at h
    · rename_i r hr; exact ⟨r, hr, h⟩
    · exact h.elim
theorem vpar_spec {base : Nat} {K : List Res → List AV → Store → Prop} : ∀ {os : List VOper} {i : Nat} {acc : List Res} {t : List AV} {σ : Store}, vpar P G π base K os i acc t σ →
    ∃ rs : List Res, rs.length = os.length ∧
      (∀ k o r, os[k]? = some o → rs[k]? = some r → stepCond P G π base o (i + k) (foldT (fun m => m < i + k) ((os.map (·.dst)).zip rs) i t) (foldS (fun m => m < i + k) ((os.map (·.dst)).zip rs) i σ) r) ∧
      K (acc.reverse ++ rs) (foldT (fun _ => true) ((os.map (·.dst)).zip rs) i t) (foldS (fun _ => true) ((os.map (·.dst)).zip rs) i σ)
  | [], i, acc, t, σ, h => ⟨[], rfl, by simp, by simpa [vpar, foldT, foldS] using h⟩
  | o :: os, i, acc, t, σ, h => by
    have go : ∀ r, stepCond P G π base o i t σ r → vpar P G π base K os (i + 1) (r :: acc) (putT t o.dst r.val) (σ.app r.up) →
        ∃ rs : List Res, rs.length = (o :: os).length ∧
          (∀ k o' r, (o :: os)[k]? = some o' → rs[k]? = some r → stepCond P G π base o' (i + k) (foldT (fun m => m < i + k) (((o :: os).map (·.dst)).zip rs) i t) (foldS (fun m => m < i + k) (((o :: os).map (·.dst)).zip rs) i σ) r) ∧
          K (acc.reverse ++ rs) (foldT (fun _ => true) (((o :: os).map (·.dst)).zip rs) i t) (foldS (fun _ => true) (((o :: os).map (·.dst)).zip rs) i σ) := by
      intro r hr hv
      obtain ⟨rs, h1, h2, h3⟩ := vpar_spec hv
      refine ⟨r :: rs, by simp [h1], ?_, ?_⟩
      · intro k o' r' ho hr'
        cases k with
        | zero =>
          simp only [List.getElem?_cons_zero, Option.some.injEq] at ho hr'
          subst ho; subst hr'
          rw [foldT_of_none _ _ _ (fun k _ => by simp), foldS_of_none _ _ _ (fun k _ => by simp), Nat.add_zero]
          exact hr
        | succ k =>
          have := h2 k o' r' (by simpa using ho) (by simpa using hr')
          simp only [List.map_cons, List.zip_cons_cons, foldT, foldS]
          have hd : decide (i < i + (k + 1)) = true := by simp
          rw [if_pos hd, if_pos hd]
          rw [show i + (k + 1) = i + 1 + k from by omega]
          exact this
      · simpa [foldT, foldS] using h3
    simp only [vpar] at h
    split at h
    · exact h.elim
    · rename_i hw
      exact go { val := .tup [] } (.inl ⟨hw, rfl⟩) h
    · rename_i hw
      obtain ⟨r, hr, hk⟩ := vstep_spec h
      exact go r (.inr ⟨hw, hr⟩) hk
theorem under_ne {q q' : Nat} {π j : Id} (h : (q :: π) <:+ j) (hne : q ≠ q') : ¬ (q' :: π) <:+ j := by
  intro h'
  have := List.suffix_of_suffix_length_le h h' (by simp)
  obtain ⟨l, hl⟩ := this
  have hl0 : l = [] := by
    have := congrArg List.length hl
    simp at this; exact this
  subst hl0
  simp at hl
  exact hne hl
theorem OpPost.frame {p : Id} {r : Res} {v : Value} {E' : Env} {w' : World} (h : OpPost G own E w σ p r v E' w') {t : List AV} {a : Act} (hf : FrameRep E w t a) (d : Option Nat) : FrameRep E' w' (putT t d r.val) (a.put d v) :=
  (hf.keep h.adv.step).put h.rep d
theorem undef_rep {t : List AV} {a : Act} (hf : FrameRep E w t a) (d : Option Nat) : FrameRep E w (putT t d (.tup [])) (a.put d undef) :=
  hf.put (by simp only [Rep, undef]; exact ⟨#[], rfl, by simp [RepL]⟩) d
theorem put_defers' (a : Act) (d : Option Nat) (v : Value) : (a.put d v).defers = a.defers := by cases d <;> rfl
def Free (E : Env) (π : Id) (n : Nat) : Prop := ∀ j, π <:+ j → (∀ q, q < n → ¬ (q :: π) <:+ j) → E.μ j = none
theorem Free.at {π : Id} {n q : Nat} (h : Free E π n) (hq : n ≤ q) {j : Id} (hj : (q :: π) <:+ j) : E.μ j = none :=
  h j ((List.suffix_cons q π).trans hj) fun q' hq' => under_ne hj (by omega)
theorem Free.mono {π : Id} {n n' : Nat} (h : Free E π n) (hn : n ≤ n') : Free E π n' := fun j hj hq => h j hj fun q hq' => hq q (by omega)
theorem Free.step {π : Id} {n : Nat} {E' : Env} (h : Free E π n) (hids : ∀ i : Id, ¬ (n :: π) <:+ i → E'.μ i = E.μ i) : Free E' π (n + 1) := fun j hj hq => by
  rw [hids j (hq n (by omega))]; exact h j hj fun q hq' => hq q (by omega)
theorem Free.self {π : Id} {n : Nat} (h : Free E π n) : E.μ π = none :=
  h π (List.suffix_refl _) fun q _ hs => by have := hs.length_le; simp at this; omega
structure AdvP (own : Nat → Prop) (π : Id) (E E' : Env) (w w' : World) : Prop extends Adv own E E' w w' where
  ids : ∀ i : Id, ¬ π <:+ i → E'.μ i = E.μ i
theorem AdvP.refl (own : Nat → Prop) (π : Id) (E : Env) (w : World) : AdvP own π E E w w := ⟨Adv.refl own E w, fun _ _ => rfl⟩
theorem AdvP.trans {π : Id} {E' E'' : Env} {w' w'' : World} (a : AdvP own π E E' w w') (b : AdvP own π E' E'' w' w'') : AdvP own π E E'' w w'' :=
  ⟨a.toAdv.trans b.toAdv, fun i hi => (b.ids i hi).trans (a.ids i hi)⟩
theorem OpPost.advP {π : Id} {q : Nat} {r : Res} {v : Value} {E' : Env} {w' : World} (h : OpPost G own E w σ (q :: π) r v E' w') : AdvP own π E E' w w' :=
  ⟨h.adv, fun i hi => h.ids i fun hs => hi ((List.suffix_cons q π).trans hs)⟩
theorem vseq_sound {ops : Array Oper} {base : Nat} {K : List AV → Store → Prop} {Q : Exit → Act → World → Prop} :
    ∀ (l : List Oper) (i : Nat), (∀ k, l[k]? = ops[i + k]?) → ∀ (vs : List VOper), l.mapM (cOper P ops) = some vs → ∀ (t : List AV) (σ : Store) (a : Act) (E : Env) (w : World), vseq P G π base K vs i t σ →
    FrameRep E w t a → Inv G own E w σ → Free E π (base + i) →
    (∀ t' σ' a' E' w', K t' σ' → AdvP own π E E' w w' → FrameRep E' w' t' a' → Inv G own E' w' σ' → Free E' π (base + i + l.length) → a'.defers = a.defers → Q .normal a' w') →
    wpOps P ops Q ((List.range' i l.length)) a w
  | [], i, _, vs, hm, t, σ, a, E, w, hv, hf, hi, hfree, hQ => by
    simp at hm; subst hm
    simp only [vseq] at hv
    simp only [List.length_nil, List.range'_zero, wpOps]
    exact hQ t σ a E w hv (AdvP.refl own π E w) hf hi hfree rfl
  | o :: l, i, hl, vs, hm, t, σ, a, E, w, hv, hf, hi, hfree, hQ => by
    simp only [List.mapM_cons, Option.pure_def, Option.bind_eq_bind, Option.bind_eq_some_iff] at hm
    obtain ⟨vo, hvo, vs', hvs, he⟩ := hm
    simp only [Option.some.injEq] at he; subst he
    obtain ⟨hop, hdst⟩ := cOper_op hvo
    have hoi : ops[i]? = some o := by have := hl 0; simpa using this.symm
    simp only [List.length_cons, List.range'_succ]
    rw [wpOps_cons]
    unfold wpOp
    rw [hoi]
    simp only []
    have rest : ∀ (t' : List AV) (σ' : Store) (a' : Act) (E' : Env) (w' : World), vseq P G π base K vs' (i + 1) t' σ' → AdvP own π E E' w w' → FrameRep E' w' t' a' → Inv G own E' w' σ' → Free E' π (base + i + 1) → a'.defers = a.defers →
        wpOps P ops Q (List.range' (i + 1) l.length) a' w' := by
      intro t' σ' a' E' w' hv' had hf' hi' hfree' hde
      refine vseq_sound l (i + 1) (fun k => by rw [show i + 1 + k = i + (k + 1) from by omega, ← hl]; simp) vs' hvs t' σ' a' E' w' hv' hf' hi' (by rw [← Nat.add_assoc]; exact hfree') ?_
      intro t2 σ2 a2 E2 w2 hk had2 hf2 hi2 hfree2 hd2
      exact hQ t2 σ2 a2 E2 w2 hk (had.trans had2) hf2 hi2 (by rw [List.length_cons, show base + i + (l.length + 1) = base + (i + 1) + l.length from by omega]; exact hfree2) (hd2.trans hde)
    simp only [vseq] at hv
    split at hv
    · exact hv.elim
    · rename_i hw
      rw [wanted_iff hvo hf hw]
      simp only [Bool.false_eq_true, if_false]
      rw [← hdst]
      exact rest _ _ _ E w hv (AdvP.refl own π E w) (undef_rep hf _) hi (hfree.mono (by omega)) (put_defers' _ _ _)
    · rename_i hw
      rw [wanted_iff hvo hf hw]
      simp only [if_true]
      obtain ⟨r, hr, hk⟩ := vstep_spec hv
      left
      refine step_sound hi (fun j hj => hfree.at (Nat.le_refl _) hj) hf hop hr ?_
      intro v w' E' hp
      rw [← hdst]
      exact rest _ _ _ E' w' hk hp.advP (hp.frame hf _) hp.inv (hfree.step hp.ids) (put_defers' _ _ _)
end
end Go.VL
end

section
namespace Go.VL
theorem fold_bits (f : Nat → Nat) (b : Nat) : ∀ (l : List Nat) (s : Nat), (l.foldl (fun s i => s ||| 2 ^ i ||| f i) s).testBit b = true → s.testBit b = true ∨ ∃ e ∈ l, b = e ∨ (f e).testBit b = true
  | [], s, h => .inl h
  | i :: l, s, h => by
    simp only [List.foldl_cons] at h
    rcases fold_bits f b l _ h with h | ⟨e, he, h⟩
    · simp only [Nat.testBit_or, Bool.or_eq_true, Nat.testBit_two_pow, decide_eq_true_eq] at h
      rcases h with (h | h) | h
      · exact .inl h
      · exact .inr ⟨i, by simp, .inl h.symm⟩
      · exact .inr ⟨i, by simp, .inr h⟩
    · exact .inr ⟨e, by simp [he], h⟩
theorem masks_len : ∀ (ons : List (List Nat)) (acc : List Nat), (masks ons acc).length = acc.length + ons.length
  | [], acc => by simp [masks]
  | l :: r, acc => by simp only [masks]; rw [masks_len r]; simp; omega
theorem masks_pre : ∀ (ons : List (List Nat)) (acc : List Nat) (k : Nat), k < acc.length → (masks ons acc)[k]? = acc[k]?
  | [], acc, k, _ => by simp [masks]
  | l :: r, acc, k, h => by
    simp only [masks]
    rw [masks_pre r _ k (by simp; omega), List.getElem?_append_left h]
theorem masks_at : ∀ (ons : List (List Nat)) (acc : List Nat) (j : Nat) (l : List Nat), ons[j]? = some l → ∃ acc' : List Nat, acc'.length = acc.length + j ∧ (∀ k, k < acc'.length → (masks ons acc)[k]? = acc'[k]?) ∧
    (masks ons acc)[acc.length + j]? = some (l.foldl (fun s i => s ||| 2 ^ i ||| acc'.getD i 0) 0)
  | [], _, _, _, h => by simp at h
  | l' :: r, acc, 0, l, h => by
    simp only [List.getElem?_cons_zero, Option.some.injEq] at h; subst h
    refine ⟨acc, rfl, fun k hk => masks_pre _ _ k hk, ?_⟩
    simp only [masks]
    rw [masks_pre r _ _ (by simp), List.getElem?_append_right (by omega)]
    simp
  | l' :: r, acc, j + 1, l, h => by
    simp only [masks]
    obtain ⟨acc', h1, h2, h3⟩ := masks_at r (acc ++ [l'.foldl (fun s i => s ||| 2 ^ i ||| acc.getD i 0) 0]) j l (by simpa using h)
    refine ⟨acc', by simp at h1; omega, h2, ?_⟩
    simp only [List.length_append, List.length_singleton] at h3
    rw [show acc.length + (j + 1) = acc.length + 1 + j from by omega]
    exact h3
theorem mask_edge {ons : List (List Nat)} {j b : Nat} (hlt : ∀ e ∈ ons.getD j [], e < j) (h : ((masks ons []).getD j 0).testBit b = true) : ∃ e ∈ ons.getD j [], b = e ∨ ((masks ons []).getD e 0).testBit b = true := by
  by_cases hj : j < ons.length
  · obtain ⟨acc, h1, h2, h3⟩ := masks_at ons [] j ons[j] (by simp [hj])
    simp only [List.length_nil, Nat.zero_add] at h1 h3
    have hg : (masks ons []).getD j 0 = ons[j].foldl (fun s i => s ||| 2 ^ i ||| acc.getD i 0) 0 := by simp [List.getD, h3]
    rw [hg] at h
    have ho : ons.getD j [] = ons[j] := by simp [List.getD, hj]
    rw [ho] at hlt ⊢
    rcases fold_bits _ b _ _ h with h | ⟨e, he, h⟩
    · simp at h
    · refine ⟨e, he, h.imp id fun h => ?_⟩
      have : (masks ons []).getD e 0 = acc.getD e 0 := by
        simp only [List.getD]
        rw [h2 e (by rw [h1]; exact hlt e he)]
      rw [this]; exact h
  · have : (masks ons []).getD j 0 = 0 := by
      have := masks_len ons []
      simp only [List.getD]
      rw [List.getElem?_eq_none (by simp at this; omega)]
      rfl
    rw [this] at h
    simp at h
theorem mask_closed {ons : List (List Nat)} {X : Nat → Bool} {n : Nat} (hlt : ∀ j, j < n → ∀ e ∈ ons.getD j [], e < j) (hX : ∀ k, k < n → X k = true → ∀ e ∈ ons.getD k [], X e = true) :
    ∀ j, j < n → (∀ e ∈ ons.getD j [], X e = true) → ∀ b, ((masks ons []).getD j 0).testBit b = true → X b = true := by
  intro j
  induction j using Nat.strongRecOn with
  | _ j ih =>
    intro hj he b hb
    obtain ⟨e, he1, h⟩ := mask_edge (hlt j hj) hb
    have hej := hlt j hj e he1
    rcases h with rfl | h
    · exact he b he1
    · exact ih e hej (by omega) (hX e (by omega) (he e he1)) b h
theorem VOp.map_congr {α β : Type} {g h : α → β} : ∀ (op : VOp α), (∀ x ∈ op.args, g x = h x) → op.map g = op.map h := by
  intro op hx
  have hl : ∀ (l : List α), (∀ x ∈ l, x ∈ op.args) → l.map g = l.map h := fun l hl => List.map_congr_left fun x hxl => hx x (hl x hxl)
  have ho : ∀ (l : Option α), (∀ x, l = some x → x ∈ op.args) → l.map g = l.map h := by
    intro l hl; cases l with
    | none => rfl
    | some x => simp [hx x (hl x rfl)]
  cases op <;> simp only [VOp.map, VOp.args] at hx hl ho ⊢
  case build z ps => congr 1; apply List.map_congr_left; intro q hq; rw [hx q.2.2 (List.mem_map.2 ⟨q, hq, rfl⟩)]
  case buildSl k n z ps => congr 1; apply List.map_congr_left; intro q hq; rw [hx q.2 (List.mem_map.2 ⟨q, hq, rfl⟩)]
  case mkfn fn a c => rw [hl a (by simp +contextual), hl c (by simp +contextual)]
  case call f as => rw [hx f (by simp), hl as (by simp +contextual)]
  case slice k x lo hi mx => rw [hx x (by simp), ho lo (by simp +contextual), ho hi (by simp +contextual), ho mx (by simp +contextual)]
  case sliceS x lo hi => rw [hx x (by simp), ho lo (by simp +contextual), ho hi (by simp +contextual)]
  all_goals try simp only [List.mem_cons, List.not_mem_nil, or_false, forall_eq_or_imp, forall_eq] at hx
  all_goals simp only [hx]
theorem ev_congr {G : Nat → Option (List AV)} {t t' : List AV} : ∀ (x : VArg), (∀ s, x.tmp? = some s → t[s]? = t'[s]?) → x.ev G t = x.ev G t'
  | .t n, h => by have := h n rfl; simp [VArg.ev, List.getD, this]
  | .c _, _ => rfl
  | .g _, _ => rfl
  | .f _, _ => rfl
theorem elemsOf_congr {σ σ' : Store} {k : Nat} {x : AV} {ys : List AV} {rd : List Id} (h : elemsOf σ k x = some (ys, rd)) (hr : ∀ id ∈ rd, σ' id = σ id) : elemsOf σ' k x = some (ys, rd) := by
  unfold elemsOf at h ⊢
  split at h
  · exact h
  · exact h
  · exact h
  · rename_i id k' off len t
    skip
    split at h
    · rename_i bk hb
      split at h
      · rename_i hh
        simp only [Option.some.injEq, Prod.mk.injEq] at h
        obtain ⟨rfl, rfl⟩ := h
        have := hr id (by simp)
        rw [this, hb]
        simp [hh]
      · simp at h
    · simp at h
  · simp at h
theorem vover_rd {σ : Store} {id : Id} {off k : Nat} {news : List AV} {v : AV} {rd : List Id} {r : Res} (h : vover σ id off k news v rd = some r) : r.rd = id :: rd := by
  unfold vover at h
  split at h
  · split at h
    · simp only [Option.some.injEq] at h; subst h; rfl
    · simp at h
  · simp at h
theorem vover_congr {σ σ' : Store} {id : Id} {off k : Nat} {news : List AV} {v : AV} {rd : List Id} {r : Res} (h : vover σ id off k news v rd = some r) (hr : ∀ id ∈ r.rd, σ' id = σ id) : vover σ' id off k news v rd = some r := by
  have hrd := vover_rd h
  unfold vover at h ⊢
  rw [hr id (by rw [hrd]; simp)]
  exact h
theorem vop_congr {σ σ' : Store} {p : Id} {op : VOp AV} {r : Res} (h : vop σ p op = some r) (hr : ∀ id ∈ r.rd, σ' id = σ id) : vop σ' p op = some r := by
  cases op with
  | load agg n x =>
    simp only [vop] at h ⊢
    unfold vload at h ⊢
    split at h
    · rename_i id e o
      skip
      cases hb : σ id with
      | none => simp [hb] at h
      | some bk =>
        simp only [hb] at h
        cases he : bk.els[e]? with
        | none => simp [he] at h
        | some el =>
          simp only [he, Option.map_eq_some_iff] at h
          obtain ⟨v, hv, rfl⟩ := h
          rw [hr id (by simp), hb]
          simp [he, hv]
    · exact h
    · simp at h
  | store n x v =>
    simp only [vop] at h ⊢
    unfold vstore at h ⊢
    split at h
    · rename_i id e o
      skip
      cases hb : σ id with
      | none => simp [hb] at h
      | some bk =>
        simp only [hb] at h
        cases he : bk.els[e]? with
        | none => simp [he] at h
        | some el =>
          simp only [he] at h
          split at h
          · rename_i hh
            simp only [Option.some.injEq] at h; subst h
            rw [hr id (by simp), hb]
            simp [he, hh]
          · simp at h
    · simp at h
  | append k bytes s x =>
    simp only [vop] at h ⊢
    unfold vappend at h ⊢
    cases hel : elemsOf σ k x with
    | none => simp [hel] at h
    | some q =>
      obtain ⟨ys, rd⟩ := q
      simp only [hel] at h
      have hsub : ∀ id ∈ rd, id ∈ r.rd := by
        intro id hid
        split at h
        · split at h <;> first | (simp only [Option.some.injEq] at h; subst h; exact hid) | simp at h
        · split at h
          · split at h <;> first | (simp only [Option.some.injEq] at h; subst h; exact hid) | simp at h
          · split at h <;> first | (simp only [Option.some.injEq] at h; subst h; exact hid) | simp at h
          · split at h
            · split at h
              · split at h
                · split at h <;> first | (simp only [Option.some.injEq] at h; subst h; exact List.mem_cons_of_mem _ hid) | (simp at h; done)
                · split at h <;> first | (simp only [Option.some.injEq] at h; subst h; exact List.mem_cons_of_mem _ hid) | (split at h <;> first | (simp only [Option.some.injEq] at h; subst h; exact List.mem_cons_of_mem _ hid) | (simp at h; done))
              · simp at h
            · simp at h
          · simp at h
      rw [elemsOf_congr hel (fun id hid => hr id (hsub id hid))]
      simp only []
      split at h
      · rename_i hemp
        rw [if_pos hemp]; exact h
      · rename_i hemp
        rw [if_neg hemp]
        split at h
        · exact h
        · exact h
        · rename_i id k' off len t
          skip
          cases hb : σ id with
          | none => simp [hb] at h
          | some bk =>
            simp only [hb] at h
            have hid : id ∈ r.rd := by
              split at h
              · split at h
                · split at h <;> first | (simp only [Option.some.injEq] at h; subst h; simp; done) | (simp at h; done)
                · split at h <;> first | (simp only [Option.some.injEq] at h; subst h; simp; done) | (split at h <;> first | (simp only [Option.some.injEq] at h; subst h; simp; done) | (simp at h; done))
              · simp at h
            rw [hr id hid, hb]
            exact h
        · simp at h
  | bytesStr x =>
    simp only [vop] at h ⊢
    unfold vbytesStr at h ⊢
    cases hel : elemsOf σ 1 x with
    | none => simp [hel] at h
    | some q =>
      obtain ⟨ys, rd⟩ := q
      simp only [hel, Option.map_eq_some_iff] at h
      obtain ⟨l, hl, rfl⟩ := h
      rw [elemsOf_congr hel hr]
      simp [hl]
  | slice k x lo hi mx =>
    simp only [vop] at h ⊢
    cases hs : vslice k x lo hi mx with
    | some v => rw [hs] at h; exact h
    | none =>
      rw [hs] at h
      simp only [vsliceR] at h ⊢
      split at h
      · rename_i id k' off len hh
        cases hb : σ id with
        | none => simp [hb] at h
        | some bk =>
          simp only [hb] at h
          split at h
          · rename_i hc
            simp only [Option.map_eq_some_iff] at h
            obtain ⟨v, hv, rfl⟩ := h
            rw [hr id (by simp), hb]
            simp [hc, hv]
          · simp at h
      · exact h
      · simp at h
  | cap x =>
    simp only [vop] at h ⊢
    cases hs : vcap x with
    | some v => rw [hs] at h; exact h
    | none =>
      rw [hs] at h
      simp only [vcapR] at h ⊢
      split at h
      · rename_i id k' off len
        cases hb : σ id with
        | none => simp [hb] at h
        | some bk =>
          simp only [hb] at h
          split at h
          · rename_i hc
            simp only [Option.some.injEq] at h; subst h
            rw [hr id (by simp), hb]
            simp [hc]
          · simp at h
      · simp at h
  | ovl x y =>
    simp only [vop] at h ⊢
    unfold vovl at h ⊢
    split at h
    · rename_i i1 _ _ _ _ i2 _ _ _ _
      split at h
      · simp at h
      · rename_i hne
        cases h1 : σ i1 with
        | none => simp [h1] at h
        | some b1 =>
          cases h2 : σ i2 with
          | none => simp [h1, h2] at h
          | some b2 =>
            simp only [h1, h2] at h
            split at h
            · rename_i hp
              simp only [Option.some.injEq] at h; subst h
              simp only [hr i1 (by simp), hr i2 (by simp), h1, h2]
              rw [if_neg hne, if_pos hp]
            · simp at h
    · simp at h
  | clear k z x =>
    simp only [vop] at h ⊢
    unfold vclear at h ⊢
    split at h
    · exact h
    · rename_i id k' off len tt
      split at h
      · rename_i h0; simp only [h0, if_true]; exact h
      · rename_i h0
        simp only [h0, if_false]
        split at h
        · rename_i hh; rw [if_pos hh]; exact vover_congr h hr
        · simp at h
    · simp at h
  | copy k d x =>
    simp only [vop] at h ⊢
    unfold vcopy at h ⊢
    cases hel : elemsOf σ k x with
    | none => simp [hel] at h
    | some q =>
      obtain ⟨ys, rd⟩ := q
      simp only [hel] at h
      have hsub : ∀ id ∈ rd, id ∈ r.rd := by
        intro id hid
        split at h
        · simp only [Option.some.injEq] at h; subst h; exact hid
        · split at h
          · simp only [Option.some.injEq] at h; subst h; exact hid
          · split at h
            · have := vover_rd h; rw [this]; exact List.mem_cons_of_mem _ hid
            · simp at h
        · simp at h
      rw [elemsOf_congr hel (fun id hid => hr id (hsub id hid))]
      simp only []
      split at h
      · exact h
      · split at h
        · rename_i h0; rw [if_pos h0]; exact h
        · rename_i h0
          rw [if_neg h0]
          split at h
          · rename_i hk; rw [if_pos hk]; exact vover_congr h hr
          · simp at h
      · simp at h
  | _ => exact h
theorem stepRel_congr {P : Program} {G : Nat → Option (List AV)} {σ σ' : Store} {p : Id} {op : VOp AV} {r : Res} (h : stepRel P G σ p op r) (hr : ∀ id ∈ r.rd, σ' id = σ id) : stepRel P G σ' p op r := by
  cases op with
  | call f as =>
    simp only [stepRel] at h ⊢
    split at h
    · obtain ⟨S, h1, h2, h3⟩ := h
      exact ⟨S, h1, fun x hx => by rw [hr _ (h3 x hx)]; exact h2 x hx, h3⟩
    · exact h
  | _ => exact vop_congr h hr
theorem noIds_spec {oc : Option AV} {r : Res} (h : noIds oc = some r) : r.rd = [] ∧ r.up = [] := by
  cases oc with
  | none => simp [noIds] at h
  | some c => simp only [noIds, Option.map_some, Option.some.injEq] at h; subst h; exact ⟨rfl, rfl⟩
theorem pure_spec {P : Program} {G : Nat → Option (List AV)} {σ : Store} {p : Id} {op : VOp VArg} (hp : op.pure = true) {t : List AV} {r : Res} (h : stepRel P G σ p (op.map (VArg.ev G t)) r) : r.rd = [] ∧ r.up = [] := by
  cases op <;> simp only [VOp.pure, Bool.false_eq_true] at hp <;> simp only [VOp.map, stepRel, vop] at h
  all_goals first
    | exact noIds_spec h
    | (simp at h; done)
    | (split at h <;> first | exact noIds_spec h | (simp at h; done) | (split at h <;> first | exact noIds_spec h | (simp at h; done)))
theorem load_spec {P : Program} {G : Nat → Option (List AV)} {σ : Store} {p : Id} {op : VOp VArg} (hp : op.isLoad = true) {t : List AV} {r : Res} (h : stepRel P G σ p (op.map (VArg.ev G t)) r) : r.up = [] := by
  cases op <;> simp only [VOp.isLoad, Bool.false_eq_true] at hp
  case bytesStr =>
    simp only [VOp.map, stepRel, vop] at h
    unfold vbytesStr at h
    split at h
    · simp only [Option.map_eq_some_iff] at h; obtain ⟨v, _, rfl⟩ := h; rfl
    · simp at h
  case ovl =>
    simp only [VOp.map, stepRel, vop] at h
    unfold vovl at h
    split at h
    · split at h
      · simp at h
      · split at h
        · split at h
          · simp only [Option.some.injEq] at h; subst h; rfl
          · simp at h
        · simp at h
    · simp at h
  case slice =>
    simp only [VOp.map, stepRel, vop] at h
    unfold vsliceR at h
    split at h
    · exact (noIds_spec h).2
    · split at h
      · split at h
        · split at h
          · simp only [Option.map_eq_some_iff] at h; obtain ⟨v, _, rfl⟩ := h; rfl
          · simp at h
        · simp at h
      · split at h
        · split at h
          · split at h
            · simp only [Option.some.injEq] at h; subst h; rfl
            · simp at h
          · simp at h
        · simp at h
      · simp at h
  case cap =>
    simp only [VOp.map, stepRel, vop] at h
    unfold vcapR at h
    split at h
    · exact (noIds_spec h).2
    · split at h
      · split at h
        · split at h
          · simp only [Option.some.injEq] at h; subst h; rfl
          · simp at h
        · simp at h
      · simp at h
  simp only [VOp.map, stepRel, vop] at h
  unfold vload at h
  split at h
  · split at h
    · split at h
      · simp only [Option.map_eq_some_iff] at h; obtain ⟨v, _, rfl⟩ := h; rfl
      · simp at h
    · simp at h
  · simp only [Option.map_eq_some_iff] at h; obtain ⟨v, _, rfl⟩ := h; rfl
  · simp at h
end Go.VL
end
