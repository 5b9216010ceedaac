/- The V-layer, part 8: make, slices of slices, addresses, append. -/
import Derived.Test.YtcomlgfjnjpebaaGreatDoorVL7
namespace Go.VL

section
variable {P : Program} {G : Nat → Option (List AV)} {own : Nat → Prop} {E : Env} {w : World} {σ : Store} {p : Id}

theorem mksl_sound (hi : Inv G own E w σ) (hμ : E.μ p = none) (hσ : σ p = none) {t e : TypeId} {i : TypeInfo} {z : AV} (hu : P.underlying t = some (.slice e)) (hie : P.info? e = some i) (hz : zeroAV P e = some z)
    (hk0 : 0 < i.size) {l c : AV} {vl vc : Value} (hl : Rep E w l vl) (hc : Rep E w c vc) {r : Res} (h : vmksl p i.size i.bytes z l c = some r) : Sound P G own E w σ p (Instr.makeSlice t vl vc) r := by
  obtain ⟨it, zv, hit, hzv, hzc, hzs, hzo⟩ := zeroAV_spec hz
  rw [hie] at hit
  simp only [Option.some.injEq] at hit; subst hit
  unfold vmksl at h
  split at h
  · rename_i kl l kc c
    simp only [Rep] at hl hc; subst hl; subst hc
    split at h
    · rename_i hh
      obtain ⟨h0, hlc, hb, hm, hzk, hz1⟩ := hh
      simp only [Option.some.injEq] at h; subst h
      have hzl : RepL E w z.cells zv.cells.toList := Rep.cells (constAV_rep hzc) (one_or_agg hzo)
      have hcm : c.toNat ≤ maxLen := by omega
      have hln : l.toNat ≤ c.toNat := by omega
      have hr := run_make (P := P) w t e i zv hu hie hzv kl kc l c h0 hlc (by rw [Int.mul_comm]; omega) (by unfold maxLen at hm; omega)
      have hk1 : ∀ e ∈ List.replicate l.toNat z, e.size = i.size := by intro e he; rw [List.eq_of_mem_replicate he]; exact hzs
      refine ⟨_, _, E.bind p w.heap.size i.size c.toNat, hr, ?_⟩
      have hp := madeCells_rep hzl hzs hk0 l.toNat c.toNat hln
      have := new_sound (p := p) (rd := []) hi hμ hσ (els := List.replicate l.toNat z) (k := i.size) (N := c.toNat) (vs := (madeCells zv.cells (c.toNat * i.size)).toList) e hk1 hp (by simp [madeCells]) (by simpa using hln) hcm
        (c := .osl p i.size 0 l.toNat false) (v := .slice (some ⟨w.heap.size, 0, none⟩) l.toNat c.toNat)
        (by simp only [Rep]; exact ⟨w.heap.size, c.toNat, c.toNat, Env.bind_same _ _ _ _ _, by simp, hln, by omega, hcm, by simp⟩)
      simpa using this
    · simp at h
  · simp at h

/-! ### Slices of slices -/

theorem vbound_run {d most : Nat} {x : Option AV} {v : Option Value} {n : Nat} (hx : match x, v with | none, none => True | some a, some b => Rep E w a b | _, _ => False) (h : vbound d most x = some n) (y : Nat) (hy : most ≤ y) (code : BoundsCode) :
    (x = none ∧ v = none ∧ n = d) ∨ (∃ u, v = some u ∧ x ≠ none ∧ n ≤ most ∧ (Instr.sliceBound u y code).run P w = .ok n w) := by
  unfold vbound at h
  split at h
  · simp only [Option.some.injEq] at h; subst h
    cases v with
    | none => exact .inl ⟨rfl, rfl, rfl⟩
    | some u => exact hx.elim
  · rename_i k i
    cases v with
    | none => exact hx.elim
    | some u =>
      simp only [Rep] at hx; subst hx
      split at h
      · rename_i hh
        simp only [Option.some.injEq] at h; subst h
        refine .inr ⟨_, rfl, by simp, by omega, ?_⟩
        have : 0 ≤ i ∧ i ≤ (y : Int) := by omega
        simp [Instr.sliceBound, asIntOf, this]
      · simp at h
  · simp at h

def OptRep (E : Env) (w : World) (x : Option AV) (v : Option Value) : Prop := match x, v with | none, none => True | some a, some b => Rep E w a b | _, _ => False

/-- The bounds of a slice, none of them past its length. -/
theorem bounds_run {isSlice : Bool} {len cap l h m : Nat} {lo hi mx : Option AV} {vlo vhi vmx : Option Value} (hlo : OptRep E w lo vlo) (hhi : OptRep E w hi vhi) (hmx : OptRep E w mx vmx) (hlc : len ≤ cap)
    (hbh : vbound len len hi = some h) (hbl : vbound 0 h lo = some l) (hm : (mx = none ∧ m = cap) ∨ (∃ k, mx = some (.int k (m : Int)) ∧ hi ≠ none ∧ h ≤ m ∧ m ≤ cap)) :
    (Instr.sliceBounds isSlice len cap vlo vhi vmx).run P w = .ok (l, h, m) w ∧ l ≤ h ∧ h ≤ len := by
  have hh : h ≤ len := by
    rcases vbound_run (P := P) hhi hbh len (Nat.le_refl _) .index with ⟨_, _, e⟩ | ⟨_, _, _, e, _⟩ <;> omega
  have hl : l ≤ h := by
    rcases vbound_run (P := P) hlo hbl h (Nat.le_refl _) .index with ⟨_, _, e⟩ | ⟨_, _, _, e, _⟩ <;> omega
  refine ⟨?_, hl, hh⟩
  unfold Instr.sliceBounds
  rcases hm with ⟨rfl, rfl⟩ | ⟨k, rfl, hne, hhm, hmc⟩
  · cases vmx with
    | some _ => exact (hmx : False).elim
    | none =>
      rcases vbound_run (P := P) hhi hbh m (Nat.le_trans (Nat.le_refl _) hlc) (if isSlice then .sliceAcap else .sliceAlen) with ⟨_, rfl, rfl⟩ | ⟨u, rfl, _, _, hr⟩
      · rcases vbound_run (P := P) hlo hbl h (Nat.le_refl _) .sliceB with ⟨_, rfl, rfl⟩ | ⟨u, rfl, _, _, hr⟩
        · simp
        · simp [hr]
      · rcases vbound_run (P := P) hlo hbl h (Nat.le_refl _) .sliceB with ⟨_, rfl, rfl⟩ | ⟨u', rfl, _, _, hr'⟩
        · simp [hr]
        · simp [hr, hr']
  · cases vmx with
    | none => exact (hmx : False).elim
    | some vm =>
      have hvm : vm = .int k (m : Int) := by simpa [OptRep, Rep] using hmx
      subst hvm
      have hbm : ∀ code, (Instr.sliceBound (.int k (m : Int)) cap code).run P w = .ok m w := by
        intro code
        have : (0 : Int) ≤ m ∧ (m : Int) ≤ cap := by omega
        simp [Instr.sliceBound, asIntOf, this]
      rcases vbound_run (P := P) hhi hbh len (Nat.le_refl _) .slice3B with ⟨e, _, _⟩ | ⟨u, rfl, _, _, _⟩
      · exact absurd e hne
      · have hr : ∀ code, (Instr.sliceBound u m code).run P w = .ok h w := by
          intro code
          cases hi with
          | none => exact (hhi : False).elim
          | some x =>
            unfold vbound at hbh
            split at hbh
            · simp_all
            · rename_i k' i heq
              simp only [Option.some.injEq] at heq; subst heq
              have : u = .int k' i := by simpa [OptRep, Rep] using hhi
              subst this
              split at hbh
              · simp only [Option.some.injEq] at hbh
                have : (0 : Int) ≤ i ∧ i ≤ m := by omega
                simp [Instr.sliceBound, asIntOf, this, hbh]
              · simp at hbh
            · simp at hbh
        rcases vbound_run (P := P) hlo hbl h (Nat.le_refl _) .slice3C with ⟨_, rfl, rfl⟩ | ⟨u', rfl, _, _, hr'⟩
        · simp [hr, hbm]
        · simp [hr, hr', hbm]

theorem flat_take_drop {k : Nat} {es : List AV} (hk : ∀ e ∈ es, e.size = k) {l h : Nat} (hlh : l ≤ h) (hh : h ≤ es.length) : flat ((es.take h).drop l) = ((flat es).drop (l * k)).take ((h - l) * k) := by
  have e1 : es = es.take l ++ ((es.take h).drop l ++ es.drop h) := by
    rw [← List.drop_append_of_le_length (by simp; omega), List.take_append_drop, List.take_append_drop]
  have h1 : (flat (es.take l)).length = l * k := by rw [flat_length (fun e he => hk e (List.mem_of_mem_take he))]; simp; rw [Nat.min_eq_left (by omega)]
  have h2 : (flat ((es.take h).drop l)).length = (h - l) * k := by
    rw [flat_length (fun e he => hk e (List.mem_of_mem_take (List.mem_of_mem_drop he)))]; simp; rw [Nat.min_eq_left (by omega)]
  conv => rhs; rw [e1]
  rw [flat_append, flat_append, ← h1, List.drop_left, ← h2, List.take_left]

theorem repAt_sub {b o k : Nat} {es : List AV} (hk : ∀ e ∈ es, e.size = k) (h : RepAt E w b o (flat es)) {l r : Nat} (hlh : l ≤ r) (hh : r ≤ es.length) : RepAt E w b (o + l * k) (flat ((es.take r).drop l)) := by
  rw [flat_take_drop hk hlh hh]
  intro j c hj
  rw [List.getElem?_take] at hj
  split at hj
  · rw [List.getElem?_drop] at hj
    have := h _ c hj
    rwa [← Nat.add_assoc] at this
  · simp at hj

theorem vslice_sound (hi : Inv G own E w σ) {t e : TypeId} {i : TypeInfo} (hu : P.underlying t = some (.slice e)) (hie : P.info? e = some i) {x : AV} {v : Value} (hx : Rep E w x v)
    {lo hi' mx : Option AV} {vlo vhi vmx : Option Value} (hlo : OptRep E w lo vlo) (hhi : OptRep E w hi' vhi) (hmx : OptRep E w mx vmx) (hmh : mx.isSome → hi'.isSome) {c : AV}
    (h : vslice i.size x lo hi' mx = some c) : Sound P G own E w σ p (Instr.sliceAt t v vlo vhi vmx) { val := c } := by
  have hrun : ∀ (a : Option Addr) (len cap l h m : Nat), (Instr.sliceBounds true len cap vlo vhi vmx).run P w = .ok (l, h, m) w →
      (Instr.sliceAt t (.slice a len cap) vlo vhi vmx).run P w = .ok (.slice (if m = l then a else a.map (·.add (l * i.size))) (h - l) (m - l)) w := by
    intro a len cap l h m hb
    simp [Instr.sliceAt, Instr.slice, run_underlying hu, hb, sizeOf_run hie]
  -- what the bounds are
  have hmax : ∀ (h : Nat), tightAt mx h = true → ∃ k, mx = some (.int k (h : Int)) := by
    intro h hh
    unfold tightAt at hh
    split at hh
    · rename_i k m'; simp only [beq_iff_eq] at hh; subst hh; exact ⟨k, rfl⟩
    · simp at hh
  have hbd : ∀ {len l r : Nat}, vbounds len lo hi' = some (l, r) → vbound len len hi' = some r ∧ vbound 0 r lo = some l := by
    intro len l r hb
    unfold vbounds at hb
    split at hb
    · simp at hb
    · rename_i h1 e1
      split at hb
      · simp at hb
      · rename_i l1 e2
        simp only [Option.some.injEq, Prod.mk.injEq] at hb
        obtain ⟨rfl, rfl⟩ := hb
        exact ⟨e1, e2⟩
  have hne : ∀ k n, mx = some (AV.int k n) → hi' ≠ none := by
    intro k n e en
    have := hmh (by simp [e])
    simp [en] at this
  unfold vslice at h
  split at h
  · -- nil
    simp only [Rep] at hx; subst hx
    split at h
    · rename_i b hb
      split at h
      · rename_i hcnd
        simp only [Option.some.injEq] at h; subst h
        obtain ⟨l, hh⟩ := b
        obtain ⟨hbh, hbl⟩ := hbd hb
        have h00 : hh = 0 := by
          rcases vbound_run (P := P) hhi hbh 0 (Nat.le_refl _) .index with ⟨_, _, e⟩ | ⟨_, _, _, e, _⟩ <;> omega
        subst h00
        obtain ⟨hb1, hb2, hb3⟩ := bounds_run (P := P) (isSlice := true) (len := 0) (cap := 0) (m := 0) hlo hhi hmx (Nat.le_refl _) hbh hbl (by
          rcases hcnd with hn | ht
          · exact .inl ⟨by simpa using hn, rfl⟩
          · obtain ⟨k, hk⟩ := hmax 0 ht
            exact .inr ⟨k, hk, hne _ _ hk, Nat.le_refl _, Nat.le_refl _⟩)
        have hl0 : l = 0 := by omega
        subst hl0
        exact Sound.same hi (hrun none 0 0 0 0 0 hb1) (by simp [Rep])
      · simp at h
    · simp at h
  · -- sl
    rename_i k' es
    simp only [Rep] at hx
    obtain ⟨a, cap, rfl, hlen, hcm, hk, hrow⟩ := hx
    split at h
    · rename_i l' hh hb
      obtain ⟨hbh, hbl⟩ := hbd hb
      · -- the case
        · -- its ways
          split at h
          · rename_i hkk
            subst hkk
            have newrow : ∀ m, l' ≤ hh → hh ≤ es.length → hh ≤ m →
                ((es.take hh).drop l' = [] ∨ ∃ b o, (if m = l' then a else a.map (·.add (l' * i.size))) = some ⟨b, o, none⟩ ∧ E.ok b ∧ RepRow E w b o ((es.take hh).drop l')) := by
              intro m h1 h2 h3
              by_cases he : l' = hh
              · left; subst he; simp
              · rcases hrow with rfl | ⟨b, o, rfl, hb, hr⟩
                · left; simp
                · right
                  refine ⟨b, o + l' * i.size, by rw [if_neg (by omega)]; simp [Addr.add_lit], hb, ?_⟩
                  rw [repRow_iff] at hr ⊢
                  exact repAt_sub hk hr h1 h2
            have hks : ∀ e ∈ (es.take hh).drop l', e.size = i.size := fun e he => hk e (List.mem_of_mem_take (List.mem_of_mem_drop he))
            split at h
            · rename_i hn
              simp only [Option.some.injEq] at h; subst h
              obtain ⟨hb1, hb2, hb3⟩ := bounds_run (P := P) (isSlice := true) (m := cap) hlo hhi hmx hlen hbh hbl (.inl ⟨by simpa using hn, rfl⟩)
              refine Sound.same hi (hrun a es.length cap l' hh cap hb1) ?_
              simp only [Rep]
              exact ⟨_, cap - l', by simp; omega, by simp; omega, by omega, hks, newrow cap hb2 hb3 (by omega)⟩
            · split at h
              · rename_i ht
                simp only [Option.some.injEq] at h; subst h
                obtain ⟨kk, hkk⟩ := hmax hh ht
                have hhl : hh ≤ es.length := by
                  rcases vbound_run (P := P) hhi hbh es.length (Nat.le_refl _) .index with ⟨_, _, e⟩ | ⟨_, _, _, e, _⟩ <;> omega
                obtain ⟨hb1, hb2, hb3⟩ := bounds_run (P := P) (isSlice := true) (m := hh) hlo hhi hmx hlen hbh hbl (.inr ⟨kk, hkk, hne _ _ hkk, Nat.le_refl _, by omega⟩)
                refine Sound.same hi (hrun a es.length cap l' hh hh hb1) ?_
                simp only [Rep]
                exact ⟨_, by simp; omega, by simp; omega, hks, newrow hh hb2 hb3 (Nat.le_refl _)⟩
              · simp at h
          · simp at h
    · simp at h
  · -- tsl
    rename_i k' es
    simp only [Rep] at hx
    obtain ⟨a, rfl, hcm, hk, hrow⟩ := hx
    split at h
    · rename_i l' hh hb
      obtain ⟨hbh, hbl⟩ := hbd hb
      · -- the case
        · -- its ways
          split at h
          · rename_i hkk
            obtain ⟨rfl, hmt⟩ := hkk
            have newrow : ∀ m, l' ≤ hh → hh ≤ es.length → hh ≤ m →
                ((es.take hh).drop l' = [] ∨ ∃ b o, (if m = l' then a else a.map (·.add (l' * i.size))) = some ⟨b, o, none⟩ ∧ E.ok b ∧ RepRow E w b o ((es.take hh).drop l')) := by
              intro m h1 h2 h3
              by_cases he : l' = hh
              · left; subst he; simp
              · rcases hrow with rfl | ⟨b, o, rfl, hb, hr⟩
                · left; simp
                · right
                  refine ⟨b, o + l' * i.size, by rw [if_neg (by omega)]; simp [Addr.add_lit], hb, ?_⟩
                  rw [repRow_iff] at hr ⊢
                  exact repAt_sub hk hr h1 h2
            have hks : ∀ e ∈ (es.take hh).drop l', e.size = i.size := fun e he => hk e (List.mem_of_mem_take (List.mem_of_mem_drop he))
            have hhl : hh ≤ es.length := by
              rcases vbound_run (P := P) hhi hbh es.length (Nat.le_refl _) .index with ⟨_, _, e⟩ | ⟨_, _, _, e, _⟩ <;> omega
            split at h
            · rename_i hor
              simp only [Option.some.injEq] at h; subst h
              rcases hmt with hn | ht
              · have hhe : hh = es.length := by
                  rcases hor with h1 | h1
                  · cases mx <;> simp at hn h1
                  · exact h1
                obtain ⟨hb1, hb2, hb3⟩ := bounds_run (P := P) (isSlice := true) (m := es.length) hlo hhi hmx (Nat.le_refl _) hbh hbl (.inl ⟨by simpa using hn, rfl⟩)
                refine Sound.same hi (hrun a es.length es.length l' hh es.length hb1) ?_
                simp only [Rep]
                exact ⟨_, by simp; omega, by simp; omega, hks, newrow es.length hb2 hb3 hb3⟩
              · obtain ⟨kk, hkk⟩ := hmax hh ht
                obtain ⟨hb1, hb2, hb3⟩ := bounds_run (P := P) (isSlice := true) (m := hh) hlo hhi hmx (Nat.le_refl _) hbh hbl (.inr ⟨kk, hkk, hne _ _ hkk, Nat.le_refl _, hhl⟩)
                refine Sound.same hi (hrun a es.length es.length l' hh hh hb1) ?_
                simp only [Rep]
                exact ⟨_, by simp; omega, by simp; omega, hks, newrow hh hb2 hb3 (Nat.le_refl _)⟩
            · rename_i hor
              simp only [Option.some.injEq] at h; subst h
              have hn : mx = none := by
                cases mx with
                | none => rfl
                | some _ => simp at hor
              obtain ⟨hb1, hb2, hb3⟩ := bounds_run (P := P) (isSlice := true) (m := es.length) hlo hhi hmx (Nat.le_refl _) hbh hbl (.inl ⟨hn, rfl⟩)
              refine Sound.same hi (hrun a es.length es.length l' hh es.length hb1) ?_
              simp only [Rep]
              exact ⟨_, es.length - l', by simp; omega, by simp; omega, by omega, hks, newrow es.length hb2 hb3 hb3⟩
          · simp at h
    · simp at h
  · -- a slice of a block of the store
    rename_i id k' off len tt
    simp only [Rep] at hx
    obtain ⟨g, N, cap, hm, rfl, hlc, hoc, hNm, htt⟩ := hx
    split at h
    · rename_i l' hh hb
      obtain ⟨hbh, hbl⟩ := hbd hb
      · -- the case
        · -- its ways
          split at h
          · rename_i hkk
            subst hkk
            split at h
            · rename_i hn
              obtain ⟨hb1, hb2, hb3⟩ := bounds_run (P := P) (isSlice := true) (m := cap) hlo hhi hmx hlc hbh hbl (.inl ⟨by simpa using hn, rfl⟩)
              have hr := hrun (some ⟨g, off * i.size, none⟩) len cap l' hh cap hb1
              split at h
              · rename_i hth
                split at h
                · rename_i hl0
                  subst hl0
                  simp only [Option.some.injEq] at h; subst h
                  refine Sound.same hi hr ?_
                  simp only [Rep]
                  refine ⟨g, N, cap, hm, ?_, by omega, hoc, hNm, ?_⟩
                  · by_cases hc0 : cap = 0 <;> simp [hc0, Addr.add_lit]
                  · cases tt with
                    | true =>
                      simp at hth htt ⊢
                      omega
                    | false => simpa using htt
                · rename_i hl0
                  split at h
                  · rename_i hlh
                    subst hlh
                    simp only [Option.some.injEq] at h; subst h
                    refine Sound.same hi hr ?_
                    simp only [Rep]
                    refine ⟨_, cap - l', by simp; rfl, by simp, by omega, by simp, .inl trivial⟩
                  · simp only [Option.some.injEq] at h; subst h
                    refine Sound.same hi hr ?_
                    simp only [Rep]
                    refine ⟨g, N, cap - l', hm, ?_, by omega, by omega, hNm, ?_⟩
                    · rw [if_neg (by omega)]; simp [Addr.add_lit, Nat.add_mul]
                    · cases tt with
                      | true => simp at hth htt ⊢; omega
                      | false => simp at htt ⊢; omega
              · simp at h
            · split at h
              · rename_i ht
                obtain ⟨ht1, hl0⟩ := ht
                subst hl0
                simp only [Option.some.injEq] at h; subst h
                obtain ⟨kk, hkk⟩ := hmax hh ht1
                have hhl : hh ≤ len := by
                  rcases vbound_run (P := P) hhi hbh len (Nat.le_refl _) .index with ⟨_, _, e⟩ | ⟨_, _, _, e, _⟩ <;> omega
                obtain ⟨hb1, hb2, hb3⟩ := bounds_run (P := P) (isSlice := true) (m := hh) hlo hhi hmx hlc hbh hbl (.inr ⟨kk, hkk, hne _ _ hkk, Nat.le_refl _, by omega⟩)
                have hr := hrun (some ⟨g, off * i.size, none⟩) len cap 0 hh hh hb1
                refine Sound.same hi hr ?_
                simp only [Rep]
                refine ⟨g, N, hh, hm, ?_, Nat.le_refl _, by omega, hNm, by simp⟩
                by_cases hc0 : hh = 0 <;> simp [hc0, Addr.add_lit]
              · simp at h
          · simp at h
    · simp at h
  · simp at h

end

end Go.VL
