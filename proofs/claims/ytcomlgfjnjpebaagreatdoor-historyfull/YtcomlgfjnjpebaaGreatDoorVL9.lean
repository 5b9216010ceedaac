/- The V-layer, part 9: strings, addresses, append. -/
import Derived.Test.YtcomlgfjnjpebaaGreatDoorVL8
namespace Go.VL

section
variable {P : Program} {G : Nat → Option (List AV)} {own : Nat → Prop} {E : Env} {w : World} {σ : Store} {p : Id}

theorem vbounds_spec {len l r : Nat} {lo hi : Option AV} (hb : vbounds len lo hi = some (l, r)) : vbound len len hi = some r ∧ vbound 0 r lo = some l := by
  unfold vbounds at hb
  split at hb
  · simp at hb
  · rename_i h1 e1
    split at hb
    · simp at hb
    · rename_i l1 e2
      simp only [Option.some.injEq, Prod.mk.injEq] at hb
      obtain ⟨rfl, rfl⟩ := hb
      exact ⟨e1, e2⟩

theorem extract_bytes (s : List UInt8) (l r : Nat) : (ByteArray.mk s.toArray).extract l r = ⟨((s.take r).drop l).toArray⟩ := by
  apply ByteArray.ext
  rw [ByteArray.data_extract]
  apply Array.ext'
  simp [List.extract_eq_take_drop, List.drop_take]

theorem vsliceS_sound (hi : Inv G own E w σ) {t : TypeId} (hu : P.underlying t = some .string) {x : AV} {v : Value} (hx : Rep E w x v)
    {lo hi' : Option AV} {vlo vhi : Option Value} (hlo : OptRep E w lo vlo) (hhi : OptRep E w hi' vhi) {c : AV} (h : vsliceS x lo hi' = some c) : Sound P G own E w σ p (Instr.sliceAt t v vlo vhi none) { val := c } := by
  unfold vsliceS at h
  split at h
  · rename_i s
    simp only [Rep] at hx; subst hx
    split at h
    · rename_i l r hb
      obtain ⟨hbh, hbl⟩ := vbounds_spec hb
      simp only [Option.some.injEq] at h; subst h
      obtain ⟨hb1, hb2, hb3⟩ := bounds_run (P := P) (isSlice := false) (mx := none) (vmx := none) (m := s.length) hlo hhi trivial (Nat.le_refl _) hbh hbl (.inl ⟨rfl, rfl⟩)
      refine Sound.same (v := .string ⟨((s.take r).drop l).toArray⟩) hi ?_ (by simp [Rep])
      have hsz : (ByteArray.mk s.toArray).size = s.length := by simp [ByteArray.size]
      simp [Instr.sliceAt, Instr.slice, run_underlying hu, hsz, hb1, extract_bytes]
    · simp at h
  · simp at h

/-- An element's address in a row that nobody writes. -/
theorem repEl_of_row {b o k : Nat} {es : List AV} (hk : ∀ e ∈ es, e.size = k) (h : RepRow E w b o es) {i : Nat} {e : AV} (he : es[i]? = some e) : RepCells E w b (o + i * k) e.cells :=
  repCells_iff.2 (repAt_el hk (repRow_iff.1 h) he)

theorem iaddrS_sound (hi : Inv G own E w σ) {t e : TypeId} {i : TypeInfo} (hu : P.underlying t = some (.slice e)) (hie : P.info? e = some i) {x j : AV} {v u : Value} (hx : Rep E w x v) (hj : Rep E w j u) {c : AV}
    (h : viaddrS i.size x j = some c) : Sound P G own E w σ p (Instr.indexAt t v u) { val := c } := by
  have hrun : ∀ (a : Addr) (len cap : Nat) (k : IntKind) (n : Int), 0 ≤ n → n < len → (Instr.indexAt t (.slice (some a) len cap) (.int k n)).run P w = .ok (.pointer (some (a.add (n.toNat * i.size)))) w := by
    intro a len cap k n h0 h1
    simp [Instr.indexAt, run_underlying hu, asIntOf, h0, h1, sizeOf_run hie]
  unfold viaddrS at h
  split at h
  · rename_i kk n
    simp only [Rep] at hj; subst hj
    have row : ∀ {es : List AV} {a : Option Addr} {cap : Nat}, (∀ e ∈ es, e.size = i.size) → (es = [] ∨ ∃ b o, a = some ⟨b, o, none⟩ ∧ E.ok b ∧ RepRow E w b o es) → 0 ≤ n →
        (es[n.toNat]?).map (fun e => AV.ep e.cells 0) = some c → Sound P G own E w σ p (Instr.indexAt t (.slice a es.length cap) (.int kk n)) { val := c } := by
      intro es a cap hk hrow h0 h
      simp only [Option.map_eq_some_iff] at h
      obtain ⟨el, hel, rfl⟩ := h
      have hlt : n.toNat < es.length := (List.getElem?_eq_some_iff.1 hel).1
      rcases hrow with rfl | ⟨b, o, rfl, hb, hr⟩
      · simp at hlt
      · refine Sound.same hi (hrun _ _ cap kk n h0 (by omega)) ?_
        rw [Addr.add_lit]
        simp only [Rep]
        exact ⟨b, o + n.toNat * i.size, by simp, hb, repEl_of_row hk hr hel⟩
    split at h
    · rename_i k' es
      simp only [Rep] at hx
      obtain ⟨a, cap, rfl, _, _, hk, hrow⟩ := hx
      split at h
      · rename_i hh
        obtain ⟨rfl, h0⟩ := hh
        exact row hk hrow h0 h
      · simp at h
    · rename_i k' es
      simp only [Rep] at hx
      obtain ⟨a, rfl, _, hk, hrow⟩ := hx
      split at h
      · rename_i hh
        obtain ⟨rfl, h0⟩ := hh
        exact row hk hrow h0 h
      · simp at h
    · rename_i id k' off len tt
      simp only [Rep] at hx
      obtain ⟨g, N, cap, hm, rfl, _⟩ := hx
      split at h
      · rename_i hh
        obtain ⟨rfl, h0, h1⟩ := hh
        simp only [Option.some.injEq] at h; subst h
        refine Sound.same hi (hrun _ _ cap kk n h0 h1) ?_
        rw [Addr.add_lit]
        simp only [Rep]
        exact ⟨g, i.size, N, hm, by simp [Nat.add_mul]⟩
      · simp at h
    · simp at h
  · simp at h

theorem iaddrA_sound (hi : Inv G own E w σ) {t e : TypeId} {n : Nat} {i : TypeInfo} (hu : P.underlying t = some (.array n e)) (hie : P.info? e = some i) {x j : AV} {v u : Value} (hx : Rep E w x v) (hj : Rep E w j u) {c : AV}
    (h : viaddrA n i.size x j = some c) : Sound P G own E w σ p (Instr.indexAt t v u) { val := c } := by
  unfold viaddrA at h
  split at h
  · rename_i kk m
    simp only [Rep] at hj; subst hj
    split at h
    · rename_i hh
      have hrun : ∀ a : Addr, (Instr.indexAt t (.pointer (some a)) (.int kk m)).run P w = .ok (.pointer (some (a.add (m.toNat * i.size)))) w := by
        intro a
        simp [Instr.indexAt, run_underlying hu, asIntOf, hh, sizeOf_run hie, Instr.sureAddr]
      split at h
      · simp only [Option.some.injEq] at h; subst h
        simp only [Rep] at hx
        obtain ⟨g, k, N, hm, rfl⟩ := hx
        refine Sound.same hi (hrun _) ?_
        rw [Addr.add_lit]
        simp only [Rep]
        exact ⟨g, k, N, hm, by simp [Nat.add_assoc]⟩
      · simp only [Option.some.injEq] at h; subst h
        simp only [Rep] at hx
        obtain ⟨b, q, rfl, hb, hr⟩ := hx
        refine Sound.same hi (hrun _) ?_
        rw [Addr.add_lit]
        simp only [Rep]
        exact ⟨b, q, by simp [Nat.add_assoc], hb, hr⟩
      · simp at h
    · simp at h
  · simp at h

theorem faddr_sound (hi : Inv G own E w σ) {s : TypeId} {fs : Array Field} {f : Nat} {fd : Field} {i : TypeInfo} (hu : P.underlying s = some (.struct fs)) (hf : fs[f]? = some fd) (hie : P.info? fd.type = some i) (h0 : i.size ≠ 0)
    {x : AV} {v : Value} (hx : Rep E w x v) {r : Res} (h : vop σ p (.faddr fd.offset x) = some r) : Sound P G own E w σ p (Instr.fieldAt s v f) r := by
  have hrun : ∀ a : Addr, (Instr.fieldAt s (.pointer (some a)) f).run P w = .ok (.pointer (some (a.add fd.offset))) w := by
    intro a
    simp [Instr.fieldAt, run_underlying hu, hf, Instr.sureAddr, fieldPlace, sizeOf_run hie, h0]
  simp only [vop] at h
  split at h
  · simp only [noIds, Option.map_some, Option.some.injEq] at h; subst h
    simp only [Rep] at hx
    obtain ⟨g, k, N, hm, rfl⟩ := hx
    refine Sound.same hi (hrun _) ?_
    rw [Addr.add_lit]
    simp only [Rep]
    exact ⟨g, k, N, hm, by simp [Nat.add_assoc]⟩
  · simp only [noIds, Option.map_some, Option.some.injEq] at h; subst h
    simp only [Rep] at hx
    obtain ⟨b, q, rfl, hb, hr⟩ := hx
    refine Sound.same hi (hrun _) ?_
    rw [Addr.add_lit]
    simp only [Rep]
    exact ⟨b, q, by simp [Nat.add_assoc], hb, hr⟩
  · simp at h

/-- A part of a struct or an array. -/
theorem part_run {t : TypeId} {agg : Bool} {i : TypeInfo} (ha : isAggT P t = some agg) (hie : P.info? t = some i) {cs : List AV} {xs : Array Value} (hr : RepL E w cs xs.toList) {o : Nat} {c : AV} (h : VL.part agg cs o i.size = some c) :
    ∃ v, (Go.part t xs o).run P w = .ok v w ∧ Rep E w c v := by
  obtain ⟨h1, h2, h3⟩ := part_rep h hr
  refine ⟨_, ?_, h1⟩
  cases agg with
  | true => simp [Go.part, isAggT_run ha, sizeOf_run hie]
  | false =>
    have h1' := h3 rfl
    have : o < xs.size := by omega
    simp [Go.part, isAggT_run ha, this]

/-! ### Append -/

/-- What is appended, read where it lies. -/
theorem elems_rep (hi : Inv G own E w σ) {k : Nat} {x : AV} {v : Value} (hx : Rep E w x v) {ys : List AV} {rd : List Id} (h : elemsOf σ k x = some (ys, rd)) :
    (∀ e ∈ ys, e.size = k) ∧ ∃ a cap, v = .slice a ys.length cap ∧ ys.length ≤ cap ∧ (ys = [] ∨ ∃ b o, a = some ⟨b, o, none⟩ ∧ RepAt E w b o (flat ys)) := by
  unfold elemsOf at h
  split at h
  · simp only [Option.some.injEq, Prod.mk.injEq] at h
    obtain ⟨rfl, rfl⟩ := h
    simp only [Rep] at hx; subst hx
    exact ⟨by simp, none, 0, rfl, Nat.le_refl _, .inl rfl⟩
  · rename_i k' es
    split at h
    · rename_i hk
      simp only [Option.some.injEq, Prod.mk.injEq] at h
      obtain ⟨rfl, rfl⟩ := h
      subst hk
      simp only [Rep] at hx
      obtain ⟨a, cap, rfl, hl, _, hk, hrow⟩ := hx
      exact ⟨hk, a, cap, rfl, hl, hrow.imp id fun ⟨b, o, e, _, r⟩ => ⟨b, o, e, repRow_iff.1 r⟩⟩
    · simp at h
  · rename_i k' es
    split at h
    · rename_i hk
      simp only [Option.some.injEq, Prod.mk.injEq] at h
      obtain ⟨rfl, rfl⟩ := h
      subst hk
      simp only [Rep] at hx
      obtain ⟨a, rfl, _, hk, hrow⟩ := hx
      exact ⟨hk, a, _, rfl, Nat.le_refl _, hrow.imp id fun ⟨b, o, e, _, r⟩ => ⟨b, o, e, repRow_iff.1 r⟩⟩
    · simp at h
  · rename_i id k' off len tt
    split at h
    · rename_i bk hσ
      split at h
      · rename_i hh
        obtain ⟨rfl, hbk, hle⟩ := hh
        simp only [Option.some.injEq, Prod.mk.injEq] at h
        obtain ⟨rfl, rfl⟩ := h
        obtain ⟨g, N, cur, ty, hB⟩ := hi.blk id bk hσ
        simp only [Rep] at hx
        obtain ⟨g', N', cap, hm, rfl, hlc, _⟩ := hx
        rw [hB.μ] at hm
        simp only [Option.some.injEq, Prod.mk.injEq] at hm
        obtain ⟨rfl, _, rfl⟩ := hm
        have hkk : ∀ e ∈ (bk.els.drop off).take len, e.size = k' := fun e he => by rw [← hbk]; exact hB.k e (List.mem_of_mem_drop (List.mem_of_mem_take he))
        have hlen : ((bk.els.drop off).take len).length = len := by simp; omega
        refine ⟨hkk, some ⟨g, off * k', none⟩, cap, by rw [hlen], by omega, .inr ⟨g, off * k', rfl, ?_⟩⟩
        have := repAt_sub (l := off) (r := off + len) hB.k hB.row (by omega) hle
        rw [Nat.zero_add, hbk] at this
        have e : (bk.els.take (off + len)).drop off = (bk.els.drop off).take len := by rw [List.drop_take]; congr 1; omega
        rwa [e] at this
      · simp at h
    · simp at h
  · simp at h

/-- The values of a row of cells. -/
theorem vals_of {b o : Nat} {cs : List AV} (h : RepAt E w b o cs) : ∃ vs : List Value, RepL E w cs vs ∧ ∀ j v, vs[j]? = some v → w.cell? ((⟨b, o, none⟩ : Addr).add j) = some v := by
  refine ⟨(List.range cs.length).map fun j => (w.cell? ⟨b, o + j, none⟩).getD undef, repL_iff.2 ⟨by simp, fun j c hj => ?_⟩, fun j v hj => ?_⟩
  · obtain ⟨v, hv, hr⟩ := h j c hj
    have hlt : j < cs.length := (List.getElem?_eq_some_iff.1 hj).1
    exact ⟨v, by simp [hlt, hv], hr⟩
  · have hlt : j < cs.length := by have := (List.getElem?_eq_some_iff.1 hj).1; simpa using this
    obtain ⟨v', hv', _⟩ := h j cs[j] (by simp [hlt])
    simp only [List.getElem?_map, hlt, List.getElem?_range, Option.map_some, Option.some.injEq] at hj
    rw [Addr.add_lit, hv', ← hj, hv']
    rfl

theorem one_vals {cs : List AV} {vs : List Value} (h : RepL E w cs vs) (h1 : ∀ c ∈ cs, c.one = true) : ∀ v ∈ vs, v.oneCell' = true := by
  intro v hv
  obtain ⟨j, hj⟩ := List.mem_iff_getElem?.1 hv
  obtain ⟨hl, hp⟩ := repL_iff.1 h
  have hjl : j < cs.length := by have := (List.getElem?_eq_some_iff.1 hj).1; omega
  obtain ⟨u, hu, hru⟩ := hp j cs[j] (by simp [hjl])
  have : u = v := by rw [hj] at hu; simpa using hu.symm
  subst this
  exact Rep.one hru (h1 _ (by simp))

/-- An append that makes a new block. -/
theorem fresh_ok (hi : Inv G own E w σ) (hμ : E.μ p = none) (hσ : σ p = none) {k n N : Nat} {els : List AV} (hk : ∀ e ∈ els, e.size = k) (hn : els.length = n) {vs : List Value} (hv : RepL E w (flat els) vs)
    {rest : Array Value} (hr : rest.size = (N - n) * k) (hnN : n ≤ N) (hN : N ≤ maxLen) (ty : TypeId) {rd : List Id} :
    OpPost G own E w σ p { val := .osl p k 0 n false, rd := rd, up := [(p, some ⟨els, k, false⟩)] } (.slice (some ⟨w.heap.size, 0, none⟩) n N) (E.bind p w.heap.size k N) (w.drew.alloc (.cells (vs.toArray ++ rest) ty)) := by
  have hd := hi.drew
  obtain ⟨hl, hp⟩ := repL_iff.1 hv
  have hfl := flat_length hk
  have hstep : Step E E w w.drew := (Adv.drew (own := own) E w).step
  have hlen : (vs ++ rest.toList).length = N * k := by
    simp only [List.length_append, Array.length_toList, hl, hfl, hn, hr, ← Nat.add_mul]
    congr 1; omega
  have := new_sound (p := p) (rd := rd) hd hμ hσ (els := els) (k := k) (N := N) (vs := vs ++ rest.toList) ty hk
    (fun j c hj => by
      obtain ⟨v, hv1, hv2⟩ := hp j c hj
      exact ⟨v, by rw [List.getElem?_append_left (List.getElem?_eq_some_iff.1 hv1).1]; exact hv1, Rep.keep hstep c v hv2⟩) hlen (by omega) hN
    (c := .osl p k 0 n false) (v := .slice (some ⟨w.heap.size, 0, none⟩) n N)
    (by simp only [Rep]; exact ⟨w.heap.size, N, N, Env.bind_same _ _ _ _ _, by simp, hnN, by omega, hN, by simp⟩)
  have he : (vs ++ rest.toList).toArray = vs.toArray ++ rest := by apply Array.ext'; simp
  rw [he] at this
  exact ⟨(Adv.drew E w).trans this.adv, this.inv, this.rep, this.ids⟩

theorem dead_ok (hi : Inv G own E w σ) (id : Id) : Inv G own E w (σ.put id none) where
  okb := hi.okb
  blk := fun i bk h => by
    by_cases e : i = id
    · subst e; simp [Store.put] at h
    · rw [Store.put_other _ _ _ e] at h; exact hi.blk i bk h
  inj := fun i j x y hx hy hne h1 h2 => by
    have ei : i ≠ id := by rintro rfl; simp [Store.put] at hx
    have ej : j ≠ id := by rintro rfl; simp [Store.put] at hy
    rw [Store.put_other _ _ _ ei] at hx
    rw [Store.put_other _ _ _ ej] at hy
    exact hi.inj i j x y hx hy hne h1 h2
  glob := hi.glob
  new := hi.new

end

end Go.VL
