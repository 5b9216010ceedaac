/- The V-layer, part 7: literals, make, slices of slices, append. -/
import Derived.Test.YtcomlgfjnjpebaaGreatDoorVL6
import Derived.Laws.Append
import Derived.Great.BuildSlice
import Derived.Laws.Strings
namespace Go.VL

section
variable {P : Program} {G : Nat → Option (List AV)} {own : Nat → Prop} {E : Env} {w : World} {σ : Store} {p : Id}

/-! ### Literals -/

theorem fold_splice (off : Nat) : ∀ (l : List Value) (s : Nat) (cs : Array Value), off + s + l.length ≤ cs.size →
    ((l.zipIdx s).foldl (fun cs x => cs.setIfInBounds (off + x.2) x.1) cs).toList = cs.toList.take (off + s) ++ l ++ cs.toList.drop (off + s + l.length)
  | [], s, cs, _ => by simp
  | v :: l, s, cs, h => by
    simp only [List.length_cons] at h
    simp only [List.zipIdx_cons, List.foldl_cons]
    rw [fold_splice off l (s + 1) _ (by simp; omega)]
    simp only [Array.toList_setIfInBounds, List.length_cons]
    have h1 : off + s < cs.toList.length := by simp; omega
    rw [show off + (s + 1) = off + s + 1 from by omega]
    rw [List.take_succ_eq_append_getElem (by simpa using h1)]
    simp only [List.getElem_set_self, List.append_assoc, List.singleton_append]
    rw [List.take_set_of_le (by omega), List.drop_set_of_lt (by omega)]
    rw [show off + s + 1 + l.length = off + s + (l.length + 1) from by omega]

theorem fill_one {cells : Array Value} {off : Nat} {v : Value} (h : off + v.cells.size ≤ cells.size) :
    (v.cells.zipIdx.foldl (fun cs (c, j) => cs.setIfInBounds (off + j) c) cells).toList = cells.toList.take off ++ v.cells.toList ++ cells.toList.drop (off + v.cells.size) := by
  rw [← Array.foldl_toList, Array.toList_zipIdx]
  have := fold_splice off v.cells.toList 0 cells (by simpa using h)
  simpa using this

theorem RepL.append {xs ys : List AV} {us vs : List Value} (h1 : RepL E w xs us) (h2 : RepL E w ys vs) : RepL E w (xs ++ ys) (us ++ vs) := by
  obtain ⟨a, b⟩ := repL_iff.1 h1
  obtain ⟨c, d⟩ := repL_iff.1 h2
  exact repL_iff.2 ⟨by simp [a, c], RepP.append b a d⟩
theorem RepL.take {xs : List AV} {us : List Value} (h : RepL E w xs us) (n : Nat) : RepL E w (xs.take n) (us.take n) := by
  obtain ⟨a, b⟩ := repL_iff.1 h
  refine repL_iff.2 ⟨by simp [a], fun j c hj => ?_⟩
  rw [List.getElem?_take] at hj
  split at hj
  · rename_i hlt; rw [List.getElem?_take_of_lt hlt]; exact b j c hj
  · simp at hj
theorem RepL.drop {xs : List AV} {us : List Value} (h : RepL E w xs us) (n : Nat) : RepL E w (xs.drop n) (us.drop n) := by
  obtain ⟨a, b⟩ := repL_iff.1 h
  refine repL_iff.2 ⟨by simp [a], fun j c hj => ?_⟩
  rw [List.getElem?_drop] at hj ⊢
  exact b _ c hj

/-- The parts of a literal, beside their trees. -/
def PartsRep (E : Env) (w : World) (place : Nat → Option (Nat × Nat)) : List (Nat × Nat × AV) → List (Nat × Value) → Prop
  | [], ps => ps = []
  | (o, n, x) :: r, ps => ∃ i v rest, ps = (i, v) :: rest ∧ place i = some (o, n) ∧ Rep E w x v ∧ PartsRep E w place r rest

theorem vfill_run {place : Nat → Option (Nat × Nat)} : ∀ {vps : List (Nat × Nat × AV)} {ps : List (Nat × Value)} {cs cs' : List AV} {cells : Array Value}, PartsRep E w place vps ps → RepL E w cs cells.toList →
    vfill cs vps = some cs' → ∃ cells' : Array Value, Instr.fill place cells ps = some cells' ∧ RepL E w cs' cells'.toList
  | [], ps, cs, cs', cells, hp, hc, h => by
    simp only [PartsRep] at hp; subst hp
    simp only [vfill, Option.some.injEq] at h; subst h
    exact ⟨cells, rfl, hc⟩
  | (o, n, x) :: r, ps, cs, cs', cells, hp, hc, h => by
    simp only [PartsRep] at hp
    obtain ⟨i, v, rest, rfl, hpl, hx, hr⟩ := hp
    simp only [vfill] at h
    split at h
    · rename_i hh
      obtain ⟨h1, h2, h3⟩ := hh
      have hxc := Rep.cells hx (one_or_agg h3)
      have hvl : v.cells.size = n := by have := RepL.len hxc; simp at this; omega
      have hcl : cells.size = cs.length := by have := RepL.len hc; simpa using this
      have hfit : o + v.cells.size ≤ cells.size := by omega
      have hnew : RepL E w (cs.take o ++ x.cells ++ cs.drop (o + n)) (v.cells.zipIdx.foldl (fun cs (c, j) => cs.setIfInBounds (o + j) c) cells).toList := by
        rw [fill_one hfit, hvl]
        exact RepL.append (RepL.append (RepL.take hc o) hxc) (RepL.drop hc (o + n))
      obtain ⟨cells', hf, hr'⟩ := vfill_run hr hnew h
      refine ⟨cells', ?_, hr'⟩
      simp only [Instr.fill, hpl]
      rw [if_neg (by simp [hvl]; omega)]
      exact hf
    · simp at h

theorem partsRep_mapM {t : List AV} {a : Act} (hf : FrameRep E w t a) (hi : Inv G own E w σ) {place : Nat → Option (Nat × Nat)} {f : Nat × VArg → Option (Nat × Nat × VArg)}
    (hfp : ∀ q r, f q = some r → r.2.2 = q.2 ∧ place q.1 = some (r.1, r.2.1)) :
    ∀ {ps : List (Nat × Operand)} {qs : List (Nat × VArg)} {rs : List (Nat × Nat × VArg)}, ps.mapM (fun p => (cArg p.2).map (p.1, ·)) = some qs → qs.mapM f = some rs →
    PartsRep E w place (rs.map fun p => (p.1, p.2.1, p.2.2.ev G t)) (ps.map fun p => (p.1, a.eval p.2))
  | [], qs, rs, h1, h2 => by
    simp at h1; subst h1; simp at h2; subst h2; simp [PartsRep]
  | (i, x) :: ps, qs, rs, h1, h2 => by
    simp only [List.mapM_cons, Option.pure_def, Option.bind_eq_bind, Option.bind_eq_some_iff] at h1
    obtain ⟨q, hq, qs', hqs, he⟩ := h1
    simp only [Option.some.injEq] at he; subst he
    simp only [List.mapM_cons, Option.pure_def, Option.bind_eq_bind, Option.bind_eq_some_iff] at h2
    obtain ⟨r, hr, rs', hrs, he⟩ := h2
    simp only [Option.some.injEq] at he; subst he
    cases hx : cArg x with
    | none => simp [hx] at hq
    | some va =>
      simp only [hx, Option.map_some, Option.some.injEq] at hq; subst hq
      obtain ⟨e1, e2⟩ := hfp _ _ hr
      simp only [List.map_cons, PartsRep]
      refine ⟨i, a.eval x, _, rfl, e2, ?_, partsRep_mapM hf hi hfp hqs hrs⟩
      rw [e1]; exact cArg_rep hf hi hx

theorem build_sound (hi : Inv G own E w σ) {t : List AV} {a : Act} (hf : FrameRep E w t a) {ty : TypeId} {ps : Array (Nat × Operand)} {vo : VOp VArg} (hc : cOp0 P (.build ty ps) = some vo) {r : Res}
    (h : vop σ p (vo.map (VArg.ev G t)) = some r) : Sound P G own E w σ p (Instr.build ty (ps.map fun (i, x) => (i, a.eval x))) r := by
  simp only [cOp0] at hc
  cases hu : P.underlying ty with
  | none => simp [hu] at hc
  | some d =>
  cases hz : zeroAV P ty with
  | none => cases d <;> simp [hu, hz] at hc
  | some z =>
  cases hps : ps.toList.mapM (fun p => (cArg p.2).map (p.1, ·)) with
  | none => cases d <;> simp [hu, hz, hps] at hc
  | some qs =>
  obtain ⟨it, zv, hit, hzv, hzc, hzs, hzo⟩ := zeroAV_spec hz
  have hzrep : Rep E w z zv := constAV_rep hzc
  have hzl := Rep.cells hzrep (one_or_agg hzo)
  have fin : ∀ {place : Nat → Option (Nat × Nat)} {vps : List (Nat × Nat × AV)} {cs : List AV}, PartsRep E w place vps (ps.map fun (i, x) => (i, a.eval x)).toList → vfill z.cells vps = some cs →
      (∀ cells, Instr.fill place zv.cells (ps.map fun (i, x) => (i, a.eval x)).toList = some cells → P.built ty (ps.map fun (i, x) => (i, a.eval x)).toList = some cells) →
      Sound P G own E w σ p (Instr.build ty (ps.map fun (i, x) => (i, a.eval x))) { val := .agg cs } := by
    intro place vps cs hp hv hb
    obtain ⟨cells, hfl, hr⟩ := vfill_run hp hzl hv
    refine Sound.same hi (run_build w ty _ cells (hb cells hfl)) ?_
    simp only [Rep]; exact ⟨cells, rfl, hr⟩
  cases d with
  | struct fs =>
    simp only [hu, hz, hps] at hc
    cases hpl : fs.toList.mapM (fun f => (P.info? f.type).map fun i => (f.offset, i.size)) with
    | none => simp [hpl] at hc
    | some places =>
      simp only [hpl, Option.map_eq_some_iff] at hc
      obtain ⟨rs, hrs, rfl⟩ := hc
      simp only [VOp.map, vop] at h
      refine Sound.of_noIds h fun c hcs => ?_
      simp only [Option.map_eq_some_iff] at hcs
      obtain ⟨cs, hv, rfl⟩ := hcs
      refine fin (place := (places.toArray[·]?)) (vps := rs.map fun p => (p.1, p.2.1, p.2.2.ev G t)) ?_ hv ?_
      · have := partsRep_mapM (place := (places.toArray[·]?)) hf hi (f := fun (p : Nat × VArg) => (places[p.1]?).map fun q => (q.1, q.2, p.2)) (by
          intro q r hqr
          simp only [Option.map_eq_some_iff] at hqr
          obtain ⟨b, hb, rfl⟩ := hqr
          exact ⟨rfl, by simpa using hb⟩) hps hrs
        simpa using this
      · intro cells hfl
        simp only [Program.built, hit, hu, hzv, hpl]
        exact hfl
  | array n e =>
    simp only [hu, hz, hps] at hc
    cases hie : P.info? e with
    | none => simp [hie] at hc
    | some ie =>
      simp only [hie, Option.some.injEq] at hc
      subst hc
      simp only [VOp.map, vop, List.map_map] at h
      refine Sound.of_noIds h fun c hcs => ?_
      simp only [Option.map_eq_some_iff] at hcs
      obtain ⟨cs, hv, rfl⟩ := hcs
      have hrs : qs.mapM (fun (q : Nat × VArg) => some (q.1 * ie.size, ie.size, q.2)) = some (qs.map fun q => (q.1 * ie.size, ie.size, q.2)) := by
        clear hv h hps
        induction qs with
        | nil => rfl
        | cons q qs ih => simp [List.mapM_cons, ih]
      have := partsRep_mapM (place := fun i => some (i * ie.size, ie.size)) hf hi (f := fun (q : Nat × VArg) => some (q.1 * ie.size, ie.size, q.2)) (by
          intro q r hqr
          simp only [Option.some.injEq] at hqr
          subst hqr; exact ⟨rfl, rfl⟩) hps hrs
      refine fin (place := fun i => some (i * ie.size, ie.size)) (vps := _) (by simpa using this) (by simpa [Function.comp_def] using hv) ?_
      intro cells hfl
      simp only [Program.built, hit, hu, hzv, hie]
      exact hfl
  | _ => simp [hu, hz, hps] at hc

/-! ### Slice literals and make -/

theorem madeCells_rep {z : AV} {zv : Value} {k : Nat} (hz : RepL E w z.cells zv.cells.toList) (hk : z.size = k) (hk0 : 0 < k) (n N : Nat) (hn : n ≤ N) :
    RepP E w (flat (List.replicate n z)) ((Array.range (N * k)).map (zv.cells[· % zv.cells.size]!)).toList := by
  obtain ⟨hl, hp⟩ := repL_iff.1 hz
  have hzs : zv.cells.size = k := by simp at hl; unfold AV.size at hk; omega
  have hsz : ∀ e ∈ List.replicate n z, e.size = k := by intro e he; rw [List.eq_of_mem_replicate he]; exact hk
  intro j c hj
  have hlen := flat_length hsz
  have hjl : j < n * k := by have := (List.getElem?_eq_some_iff.1 hj).1; rw [hlen] at this; simpa using this
  have hi : j / k < n := (Nat.div_lt_iff_lt_mul hk0).2 hjl
  have hg := flat_get (i := j / k) (e := z) (j := j % k) hsz (by simp [hi]) (Nat.mod_lt _ hk0)
  rw [Nat.div_add_mod' j k] at hg
  rw [hg] at hj
  obtain ⟨v, hv, hr⟩ := hp _ c hj
  have hjN : j < N * k := Nat.lt_of_lt_of_le hjl (Nat.mul_le_mul_right _ hn)
  refine ⟨v, ?_, hr⟩
  simp at hv
  simp only [Array.toList_map, Array.toList_range, List.getElem?_map, hjN, List.getElem?_range, Option.map_some, Option.some.injEq, hzs]
  rw [getElem!_def, hv]

theorem vfillEls_spec {k : Nat} : ∀ {ps : List (Nat × AV)} {es es' : List AV}, (∀ e ∈ es, e.size = k) → vfillEls k es ps = some es' →
    (∀ e ∈ es', e.size = k) ∧ es'.length = es.length ∧ vfill (flat es) (ps.map fun q => (q.1 * k, k, q.2)) = some (flat es')
  | [], es, es', hk, h => by
    simp only [vfillEls, Option.some.injEq] at h; subst h
    exact ⟨hk, rfl, by simp [vfill]⟩
  | (i, x) :: ps, es, es', hk, h => by
    simp only [vfillEls] at h
    split at h
    · rename_i hh
      obtain ⟨h1, h2, h3⟩ := hh
      have hk' : ∀ e ∈ es.set i x, e.size = k := by
        intro e he
        rcases List.mem_or_eq_of_mem_set he with he | rfl
        · exact hk e he
        · exact h1
      obtain ⟨r1, r2, r3⟩ := vfillEls_spec hk' h
      refine ⟨r1, by simpa using r2, ?_⟩
      have hfl := flat_set hk (show es[i]? = some es[i] by simp [h2]) h1
      have hlen := flat_length hk
      have hle : (i + 1) * k ≤ es.length * k := Nat.mul_le_mul_right _ h2
      rw [Nat.add_mul] at hle
      simp only [List.map_cons, vfill]
      rw [if_pos ⟨h1, by omega, h3⟩, ← hfl]
      exact r3
    · simp at h

theorem buildSl_sound (hi : Inv G own E w σ) (hμ : E.μ p = none) (hσ : σ p = none) {t : List AV} {a : Act} (hf : FrameRep E w t a) {ty : TypeId} {n : Nat} {ps : Array (Nat × Operand)} {vo : VOp VArg}
    (hc : cOp0 P (.buildSlice ty n ps) = some vo) {r : Res} (h : vop σ p (vo.map (VArg.ev G t)) = some r) : Sound P G own E w σ p (Instr.buildSlice ty n (ps.map fun (i, x) => (i, a.eval x))) r := by
  simp only [cOp0] at hc
  cases hu : P.underlying ty with
  | none => simp [hu] at hc
  | some d =>
  cases hps : ps.toList.mapM (fun p => (cArg p.2).map (p.1, ·)) with
  | none => cases d <;> simp [hu, hps] at hc
  | some qs =>
  cases d with
  | slice e =>
    simp only [hu, hps] at hc
    cases hie : P.info? e with
    | none => simp [hie] at hc
    | some ie =>
    cases hz : zeroAV P e with
    | none => simp [hie, hz] at hc
    | some z =>
      simp only [hie, hz] at hc
      split at hc
      · rename_i hh
        obtain ⟨hsm, hk0, hnm⟩ := hh
        simp only [Option.some.injEq] at hc; subst hc
        obtain ⟨it, zv, hit, hzv, hzc, hzs, hzo⟩ := zeroAV_spec hz
        rw [hie] at hit
        simp only [Option.some.injEq] at hit; subst hit
        simp only [VOp.map, vop] at h
        cases hfe : vfillEls ie.size (List.replicate n z) (qs.map fun p => (p.1, p.2.ev G t)) with
        | none => simp [hfe] at h
        | some es =>
          simp only [hfe] at h
          split at h
          · simp only [Option.some.injEq] at h; subst h
            have hk1 : ∀ e ∈ List.replicate n z, e.size = ie.size := by intro e he; rw [List.eq_of_mem_replicate he]; exact hzs
            obtain ⟨r1, r2, r3⟩ := vfillEls_spec hk1 hfe
            have hzl : RepL E w z.cells zv.cells.toList := Rep.cells (constAV_rep hzc) (one_or_agg hzo)
            have hlen := flat_length hk1
            -- the zero cells
            generalize hcells : (Array.range (n * ie.size)).map (zv.cells[· % zv.cells.size]!) = cells0 at *
            have hc0 : RepL E w (flat (List.replicate n z)) cells0.toList := by
              refine repL_iff.2 ⟨?_, ?_⟩
              · rw [hlen, ← hcells]; simp
              · rw [← hcells]; exact madeCells_rep hzl hzs hk0 n n (Nat.le_refl _)
            have hrs : qs.mapM (fun (q : Nat × VArg) => some (q.1 * ie.size, ie.size, q.2)) = some (qs.map fun q => (q.1 * ie.size, ie.size, q.2)) := by
              clear hfe r3 hps
              induction qs with
              | nil => rfl
              | cons q qs ih => simp [List.mapM_cons, ih]
            have hpr := partsRep_mapM (place := fun i => some (i * ie.size, ie.size)) hf hi (f := fun (q : Nat × VArg) => some (q.1 * ie.size, ie.size, q.2)) (by
              intro q r hqr
              simp only [Option.some.injEq] at hqr
              subst hqr; exact ⟨rfl, rfl⟩) hps hrs
            simp only [List.map_map, Function.comp_def] at hpr r3
            obtain ⟨cells, hfl, hr⟩ := vfill_run (cells := cells0) hpr hc0 r3
            obtain ⟨hl1, hp1⟩ := repL_iff.1 hr
            have hlen' := flat_length r1
            refine ⟨.slice (some ⟨w.heap.size, 0, none⟩) n n, w.alloc (.cells cells e), E.bind p w.heap.size ie.size n, ?_, ?_⟩
            · have hfl2 : Instr.fill (fun i => some (i * ie.size, ie.size)) cells0 (ps.map fun (i, x) => (i, a.eval x)).toList = some cells := by simpa using hfl
              by_cases h0 : n * ie.size = 0
              · have hce : cells0 = #[] := by rw [← hcells, h0]; simp
                rw [hce] at hfl2
                have hs24 : ¬ (n * ie.size > 2 ^ 24) := by omega
                have hn0 : n = 0 := by
                  rcases Nat.mul_eq_zero.1 h0 with h | h
                  · exact h
                  · omega
                subst hn0
                have hnr : ∀ w, (newRow e cells).run P w = .ok ⟨w.heap.size, 0, none⟩ (w.alloc (.cells cells e)) := fun _ => rfl
                have hfl3 : Instr.fill (fun i => some (i * ie.size, ie.size)) ((Array.range 0).map (fun _ : Nat => (default : Value))) (List.map (fun x => (x.fst, a.eval x.snd)) ps.toList) = some cells := by
                  have : (Array.range 0).map (fun _ : Nat => (default : Value)) = #[] := by apply Array.eq_empty_of_size_eq_zero; simp
                  rw [this]; simpa using hfl2
                simp [Instr.buildSlice, run_underlying hu, sizeOf_run hie, hfl3, hnr]
              · exact run_buildSlice w ty e n _ cells ie zv hu hie hzv (by omega) h0 (by rw [hcells]; exact hfl2)
            · have := new_sound (p := p) (rd := []) hi hμ hσ (els := es) (k := ie.size) (N := n) (vs := cells.toList) e r1 hp1 (by rw [hl1, hlen', r2]; simp) (by rw [r2]; simp) hnm
                (c := .osl p ie.size 0 n false) (v := .slice (some ⟨w.heap.size, 0, none⟩) n n)
                (by simp only [Rep]; exact ⟨w.heap.size, n, n, Env.bind_same _ _ _ _ _, by simp, Nat.le_refl _, by omega, hnm, by simp⟩)
              simpa using this
          · simp at h
      · simp at hc
  | _ => simp [hu, hps] at hc

end

end Go.VL
