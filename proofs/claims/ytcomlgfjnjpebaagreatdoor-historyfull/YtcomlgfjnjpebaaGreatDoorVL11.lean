/- The V-layer, part 11: every operation other than a call does what its tree says. -/
import Derived.Test.YtcomlgfjnjpebaaGreatDoorVL10
import Derived.Laws.BytesArg
import Derived.Laws.Externs
import Derived.Lib.Bytealg
import Derived.Lib.Overlaps
namespace Go.VL

section
variable {P : Program} {G : Nat → Option (List AV)} {own : Nat → Prop} {E : Env} {w : World} {σ : Store} {p : Id}

/-- The operation comes to r. -/
def OpDone (P : Program) (G : Nat → Option (List AV)) (own : Nat → Prop) (E : Env) (w : World) (σ : Store) (p : Id) (r : Res) (s : Sem Next) : Prop :=
  ∃ v w' E', (s.run P w = .ok (.value v) w' ∨ (s.run P w = .ok .skip w' ∧ v = undef)) ∧ OpPost G own E w σ p r v E' w'

theorem OpDone.of {s : Sem Value} {r : Res} (h : Sound P G own E w σ p s r) : OpDone P G own E w σ p r (do pure (.value (← s))) := by
  obtain ⟨v, w', E', hr, hp⟩ := h
  exact ⟨v, w', E', .inl (by simp [hr]), hp⟩

theorem OpDone.ofU {s : Sem Unit} {r : Res} (h : ∃ w', s.run P w = .ok () w' ∧ OpPost G own E w σ p r undef E w') : OpDone P G own E w σ p r (do s; pure .skip) := by
  obtain ⟨w', hr, hp⟩ := h
  exact ⟨undef, w', E, .inr ⟨by simp [hr], rfl⟩, hp⟩

theorem cOpt_rep {t : List AV} {a : Act} (hf : FrameRep E w t a) (hi : Inv G own E w σ) {x : Option Operand} {vx : Option VArg} (h : cOpt x = some vx) : OptRep E w (vx.map (VArg.ev G t)) (x.map a.eval) := by
  cases x with
  | none => simp only [cOpt, Option.some.injEq] at h; subst h; trivial
  | some x =>
    simp only [cOpt, Option.map_eq_some_iff] at h
    obtain ⟨va, hva, rfl⟩ := h
    exact cArg_rep hf hi hva

theorem vcapR_spec {σ : Store} {x : AV} {oc : Option AV} {r : Res} (h : vcapR σ x oc = some r) : noIds oc = some r ∨ ∃ id k off len bk, x = .osl id k off len false ∧ σ id = some bk ∧ off ≤ bk.els.length ∧ r = { val := .ige (bk.els.length - off), rd := [id] } := by
  unfold vcapR at h
  split at h
  · exact .inl h
  · split at h
    · rename_i id k off len
      split at h
      · rename_i bk hb
        split at h
        · rename_i ho
          simp only [Option.some.injEq] at h
          exact .inr ⟨id, k, off, len, bk, rfl, hb, ho, h.symm⟩
        · simp at h
      · simp at h
    · simp at h

theorem vsliceR_sound (hi : Inv G own E w σ) {t e : TypeId} {i : TypeInfo} (hu : P.underlying t = some (.slice e)) (hie : P.info? e = some i) {x : AV} {v : Value} (hx : Rep E w x v)
    {lo hi' mx : Option AV} {vlo vhi vmx : Option Value} (hlo : OptRep E w lo vlo) (hhi : OptRep E w hi' vhi) (hmx : OptRep E w mx vmx) (hmh : mx.isSome → hi'.isSome) {r : Res}
    (h : vsliceR σ i.size x lo hi' mx (vslice i.size x lo hi' mx) = some r) : Sound P G own E w σ p (Instr.sliceAt t v vlo vhi vmx) r := by
  cases hs : vslice i.size x lo hi' mx with
  | some c =>
    rw [hs] at h
    refine Sound.of_noIds (oc := some c) h fun c' hc' => ?_
    simp only [Option.some.injEq] at hc'; subst hc'
    exact vslice_sound hi hu hie hx hlo hhi hmx hmh hs
  | none =>
    rw [hs] at h
    simp only [vsliceR] at h
    split at h
    · rename_i id k' off len hh
      split at h
      · rename_i bk hb
        split at h
        · rename_i hc
          obtain ⟨ho, hk⟩ := hc
          simp only [Option.map_eq_some_iff] at h
          obtain ⟨c, hc, rfl⟩ := h
          simp only [Rep] at hx
          obtain ⟨g, N, cap, hm, rfl, h1, h2, h3, h4⟩ := hx
          obtain ⟨g', N', cur, ty', hB⟩ := hi.blk id bk hb
          have hμ := hB.μ
          rw [hμ] at hm
          simp only [Option.some.injEq, Prod.mk.injEq] at hm
          obtain ⟨rfl, rfl, rfl⟩ := hm
          simp only [Bool.false_eq_true, if_false] at h4
          have hl := hB.len
          have hx' : Rep E w (.osl id bk.k off (bk.els.length - off) false) (.slice (some ⟨g', off * bk.k, none⟩) (bk.els.length - off) cap) := by
            simp only [Rep]
            exact ⟨g', N', cap, hμ, rfl, by omega, h2, h3, by simpa using h4⟩
          have hmx0 : vmx = none := by cases vmx with | none => rfl | some _ => exact (hmx : False).elim
          subst hmx0
          obtain ⟨v, w', E', hrun, hp⟩ := vslice_sound (p := p) hi hu hie hx' hlo hhi (mx := none) (vmx := none) hmx (by simp) hc
          cases vhi with
          | none => exact (hhi : False).elim
          | some u =>
            refine ⟨v, w', E', ?_, ⟨hp.adv, hp.inv, hp.rep, hp.ids⟩⟩
            rw [← hrun]
            simp [Instr.sliceAt, Instr.slice, run_underlying hu, Instr.sliceBounds]
        · simp at h
      · simp at h
    · rename_i hh km m
      split at h
      · rename_i n hn
        split at h
        · rename_i l r' hb
          split at h
          · rename_i hc
            simp only [Option.some.injEq] at h; subst h
            obtain ⟨h1, h2⟩ := hc
            have hm0 : m = ((m.toNat : Nat) : Int) := by omega
            obtain ⟨a, cap, rfl, hlc⟩ : ∃ a cap, v = .slice a n cap ∧ n ≤ cap := by
              unfold lenAV at hn
              split at hn
              · simp only [Option.some.injEq] at hn; subst hn
                simp only [Rep] at hx; exact ⟨_, _, hx, Nat.le_refl _⟩
              · split at hn
                · simp only [Option.some.injEq] at hn; subst hn
                  simp only [Rep] at hx; obtain ⟨a, cap, rfl, h, _⟩ := hx; exact ⟨_, _, rfl, h⟩
                · simp at hn
              · split at hn
                · simp only [Option.some.injEq] at hn; subst hn
                  simp only [Rep] at hx; obtain ⟨a, rfl, _⟩ := hx; exact ⟨_, _, rfl, Nat.le_refl _⟩
                · simp at hn
              · split at hn
                · simp only [Option.some.injEq] at hn; subst hn
                  simp only [Rep] at hx; obtain ⟨g, N, cap, _, rfl, h, _⟩ := hx; exact ⟨_, _, rfl, h⟩
                · simp at hn
              · simp at hn
            unfold vbounds at hb
            split at hb
            · simp at hb
            · rename_i h1' e1
              split at hb
              · simp at hb
              · rename_i l1 e2
                simp only [Option.some.injEq, Prod.mk.injEq] at hb
                obtain ⟨rfl, rfl⟩ := hb
                obtain ⟨hb1, _, _⟩ := bounds_run (P := P) (isSlice := true) (len := n) (cap := cap) (m := m.toNat) hlo hhi hmx hlc e1 e2 (.inr ⟨km, by rw [← hm0], by simp, by omega, by omega⟩)
                refine ⟨.slice (if m.toNat = l1 then a else a.map (·.add (l1 * i.size))) (h1' - l1) (m.toNat - l1), w, E, ?_, ⟨Adv.refl own E w, hi, by simp only [Rep], fun _ _ => rfl⟩⟩
                simp [Instr.sliceAt, Instr.slice, run_underlying hu, hb1, sizeOf_run hie]
          · simp at h
        · simp at h
      · simp at h
    · simp at h

theorem ext_run {f : FuncId} {fn : Func} {e : Array Value → Sem Value} {c : Call} {a : Act} {o : Oper} (hop : o.op = .call c) (hcal : c.callee = .value (.func f)) (hf : P.funcs[f]? = some fn) (hname : (fn.name == "runtime.NumGoroutine") = false)
    (hb : fn.body.isNone = true) (hn : Extern.findNext fn = none) (he : Extern.find fn = some e) {v : Value} {w' : World} (hrun : (e (c.args.map a.eval)).run P w = .ok v w') :
    (execOp a.eval o).run P w = .ok (.value v) w' := by
  have h1 := run_callFunc_extern hf hname hb hn he (c.args.map a.eval) w
  rw [hrun] at h1
  simp only [Result.andThen] at h1
  have e0 : a.eval (.func f) = .func (.func f) #[] #[] := rfl
  simp [execOp, hop, resolve, hcal, e0, Deferred.ofValue, invoke, h1]

theorem extK_spec {fo : Operand} {k : ExtK} (h : extK P fo = some k) : ∃ f fn, fo = .func f ∧ P.funcs[f]? = some fn ∧ fn.body.isNone = true ∧
    ((k = .idx ∧ fn.name = "internal/bytealg.IndexByteString" ∧ fn.origin = "") ∨ (k = .ovl ∧ fn.origin = "slices.overlaps" ∧ nameFree fn.name = true ∧ ∃ t e i, fn.params[0]? = some t ∧ P.underlying t = some (.slice e) ∧ P.info? e = some i)) := by
  unfold extK at h
  split at h
  · rename_i f
    split at h
    · rename_i fn hfn
      split at h
      · rename_i hb
        refine ⟨f, fn, rfl, hfn, hb, ?_⟩
        split at h
        · rename_i hn
          simp only [Option.some.injEq] at h
          simp only [Bool.and_eq_true, beq_iff_eq] at hn
          exact .inl ⟨h.symm, hn.1, hn.2⟩
        · split at h
          · rename_i ho
            simp only [Bool.and_eq_true, beq_iff_eq] at ho
            split at h
            · rename_i t ht
              split at h
              · rename_i e he
                split at h
                · rename_i hi
                  simp only [Option.some.injEq] at h
                  obtain ⟨i, hi⟩ := Option.isSome_iff_exists.1 hi
                  exact .inr ⟨h.symm, ho.1, ho.2, t, e, i, ht, he, hi⟩
                · simp at h
              · simp at h
            · simp at h
          · simp at h
      · simp at h
    · simp at h
  · simp at h

theorem free_find {fn : Func} (hf : nameFree fn.name = true) (ho : fn.origin = "slices.overlaps") : Extern.findNext fn = none ∧ Extern.find fn = some (Extern.SlicesOverlaps.overlaps fn.params fn.resultTypes) := by
  unfold nameFree at hf
  simp only [Bool.and_eq_true, Option.isNone_iff_eq_none] at hf
  obtain ⟨⟨⟨⟨h1, h2⟩, h3⟩, h4⟩, _⟩ := hf
  have o1 : Extern.allGenericRows.lookup "slices.overlaps" = none := by kernel_rfl
  have o2 : Extern.allTypedRows.lookup "slices.overlaps" = some Extern.SlicesOverlaps.overlaps := by kernel_rfl
  have o4 : Extern.allNextRows.lookup "slices.overlaps" = none := by kernel_rfl
  constructor
  · simp [Extern.findNext, h4, ho, o4]
  · simp [Extern.find, h1, h2, h3, ho, o1, o2]

theorem idx_find {fn : Func} (hn : fn.name = "internal/bytealg.IndexByteString") (ho : fn.origin = "") : Extern.findNext fn = none ∧ Extern.find fn = some Extern.BytealgIndexByte.indexByte := by
  have o1 : Extern.allGenericRows.lookup "internal/bytealg.IndexByteString" = none := by kernel_rfl
  have o2 : Extern.allTypedRows.lookup "internal/bytealg.IndexByteString" = none := by kernel_rfl
  have o3 : Extern.allRows.lookup "internal/bytealg.IndexByteString" = some Extern.BytealgIndexByte.indexByte := by kernel_rfl
  have o4 : Extern.allNextRows.lookup "internal/bytealg.IndexByteString" = none := by kernel_rfl
  have o5 : Extern.allNextRows.lookup "" = none := by kernel_rfl
  constructor
  · simp [Extern.findNext, hn, ho, o4, o5]
  · simp [Extern.find, hn, o1, o2, o3]

theorem idxByte_eq : ∀ (l : List UInt8) (c : UInt8), Lib.indexByte l c = idxByte l c
  | [], _ => rfl
  | b :: l, c => by simp only [Lib.indexByte, idxByte, idxByte_eq l c]

theorem idx_sound {c : Call} {a : Act} {o : Oper} {fo x y : Operand} (hop : o.op = .call c) (hcal : c.callee = .value fo) (hk : extK P fo = some .idx) (hargs : c.args.toList = [x, y]) (hi : Inv G own E w σ) {vx vy : AV}
    (hx : Rep E w vx (a.eval x)) (hy : Rep E w vy (a.eval y)) {r : Res} (h : noIds (vidx vx vy) = some r) : OpDone P G own E w σ p r (execOp a.eval o) := by
  obtain ⟨f, fn, rfl, hfn, hb, hh⟩ := extK_spec hk
  rcases hh with ⟨_, hn, ho⟩ | ⟨h0, _⟩
  case inr => simp at h0
  have key : ∃ s n, vx = .str s ∧ vy = .int .u8 n ∧ r = { val := .int .i64 (idxByte s n.toNat.toUInt8) } := by
    unfold vidx at h
    split at h
    · simp only [noIds, Option.map_some, Option.some.injEq] at h
      exact ⟨_, _, rfl, rfl, h.symm⟩
    · simp [noIds] at h
  clear h
  obtain ⟨s, n, rfl, rfl, rfl⟩ := key
  · simp only [Rep] at hx hy
    obtain ⟨hn1, hn2⟩ := idx_find hn ho
    have hae : c.args.map a.eval = #[.string ⟨s.toArray⟩, .int .u8 n] := by
      apply Array.ext'
      simp [hargs, hx, hy]
    refine ⟨.int .i64 (idxByte s n.toNat.toUInt8), w, E, .inl (ext_run hop hcal hfn (by rw [hn]; rfl) hb hn1 hn2 ?_), ⟨Adv.refl own E w, hi, by simp only [Rep], fun _ _ => rfl⟩⟩
    rw [hae, Lib.run_indexByteString, idxByte_eq]

theorem run_ovl (params res : Array TypeId) {tS e : TypeId} {i : TypeInfo} (hp : params[0]? = some tS) (ht : P.underlying tS = some (.slice e)) (hie : P.info? e = some i)
    (a b : Addr) (la ca lb cb : Nat) (hne : a.block ≠ b.block) {curA curB : Array Value} {tA tB : TypeId} (ha : w.heap[a.block]? = some (.cells curA tA (0, 0))) (hb : w.heap[b.block]? = some (.cells curB tB (0, 0))) (hkB : curB.size ≠ 0) :
    (Extern.SlicesOverlaps.overlaps params res #[.slice (some a) la ca, .slice (some b) lb cb]).run P w = .ok (.bool false) w := by
  have hnb : (a.block != b.block) = true := by simpa using hne
  have hnb' : (a.block == b.block) = false := by simpa using hne
  have hsa : w.shape? a.block = some (tA, curA.size) := by simp [World.shape?, ha]
  have hsb : w.shape? b.block = some (tB, curB.size) := by simp [World.shape?, hb]
  have hfa : w.frozen? a = false := by simp [World.frozen?, ha]
  have hfe : w.frozen? { block := a.block, off := curA.size } = false := by simp [World.frozen?, ha]
  have hz : (Go.sizeOf e).run P w = .ok i.size w := sizeOf_run hie w
  change Sem.run P (α := Value) (do
    let some t := params[0]? | stuck "slices.overlaps: no parameter types"
    let .slice elem ← underlying t | stuck "slices.overlaps: slice type expected"
    let size ← sizeOf elem
    match (some a : Option Addr), (some b : Option Addr) with
    | some a, some b =>
      if la = 0 ∨ lb = 0 ∨ size = 0 then pure (Value.bool false)
      else if a.block != b.block && (← frozen a) && (← frozen b) then unsupported .addressObserved
      else do
        if a.block != b.block then do
          noView a; noView b
          if ← mayBeOne a b then return Value.bool ((← choose (.extern "sameAddr.stringBytes" 2)) == 1)
        pure (Value.bool (a.block == b.block && a.off < b.off + lb * size && b.off < a.off + la * size))
    | _, _ => pure (Value.bool false)) w = _
  rw [hp]
  by_cases h0 : la = 0 ∨ lb = 0 ∨ i.size = 0
  · simp [run_underlying ht, hz, h0]
  · cases hk : curB.size with
    | zero => exact absurd hk hkB
    | succ kB =>
      simp [run_underlying ht, hz, h0, hnb, hnb', frozen, noView, viewAt, mayBeOne, stringish, shape, Sem.run, hsa, hsb, hfa, hfe, hk]

theorem ovl_sound {c : Call} {a : Act} {o : Oper} {fo x y : Operand} (hop : o.op = .call c) (hcal : c.callee = .value fo) (hk : extK P fo = some .ovl) (hargs : c.args.toList = [x, y]) (hi : Inv G own E w σ) {vx vy : AV}
    (hx : Rep E w vx (a.eval x)) (hy : Rep E w vy (a.eval y)) {r : Res} (h : vovl σ vx vy = some r) : OpDone P G own E w σ p r (execOp a.eval o) := by
  obtain ⟨f, fn, rfl, hfn, hb, hh⟩ := extK_spec hk
  rcases hh with ⟨h0, _⟩ | ⟨_, ho, hnf, tS, e, i, hp, ht, hie⟩
  case inl => simp at h0
  unfold vovl at h
  split at h
  · rename_i id1 k1 o1 l1 t1 id2 k2 o2 l2 t2
    split at h
    · simp at h
    · rename_i hne
      split at h
      · rename_i b1 b2 h1 h2
        split at h
        · rename_i hpos
          simp only [Option.some.injEq] at h; subst h
          simp only [Rep] at hx hy
          obtain ⟨g1, N1, c1, hm1, hv1, _⟩ := hx
          obtain ⟨g2, N2, c2, hm2, hv2, _⟩ := hy
          obtain ⟨g1', N1', cur1, ty1, hB1⟩ := hi.blk id1 b1 h1
          obtain ⟨g2', N2', cur2, ty2, hB2⟩ := hi.blk id2 b2 h2
          have hg : g1 ≠ g2 := hi.inj id1 id2 _ _ (by simp [h1]) (by simp [h2]) hne hm1 hm2
          rw [hB1.μ] at hm1
          rw [hB2.μ] at hm2
          simp only [Option.some.injEq, Prod.mk.injEq] at hm1 hm2
          obtain ⟨rfl, _, _⟩ := hm1
          obtain ⟨rfl, _, _⟩ := hm2
          obtain ⟨hn1, hn2⟩ := free_find hnf ho
          have hname : (fn.name == "runtime.NumGoroutine") = false := by
            unfold nameFree at hnf
            simp only [Bool.and_eq_true, Bool.not_eq_true'] at hnf
            exact hnf.2
          have hae : c.args.map a.eval = #[.slice (some ⟨g1', o1 * k1, none⟩) l1 c1, .slice (some ⟨g2', o2 * k2, none⟩) l2 c2] := by
            apply Array.ext'
            simp [hargs, hv1, hv2]
          have hsz : cur2.size ≠ 0 := by
            rw [hB2.size]
            have hl := hB2.len
            exact Nat.ne_of_gt (Nat.mul_pos (by omega) hpos.1)
          refine ⟨.bool false, w, E, .inl (ext_run hop hcal hfn hname hb hn1 hn2 ?_), ⟨Adv.refl own E w, hi, by simp only [Rep], fun _ _ => rfl⟩⟩
          rw [hae]
          exact run_ovl fn.params fn.resultTypes hp ht hie _ _ _ _ _ _ hg hB1.heap hB2.heap hsz
        · simp at h
      · simp at h
  · simp at h

theorem builtin_sound (hi : Inv G own E w σ) (hμ : E.μ p = none) (hσ : σ p = none) {t : List AV} {a : Act} (hf : FrameRep E w t a) {b : Builtin} {args : Array Operand} {ts : Array TypeId} {ty : TypeId} {cs : Array Bool} {vo : VOp VArg}
    (hc : cBuiltin P b args ts = some vo) {r : Res} (h : vop σ p (vo.map (VArg.ev G t)) = some r) {R : Prop}
    (fin : ∀ {s : Sem Value}, builtin b ts ty cs (args.map a.eval) = (do pure (.value (← s))) → Sound P G own E w σ p s r → R) : R := by
  unfold cBuiltin at hc
  split at hc
  · -- len
    rename_i x tx hargs hts
    have hargs' : args = #[x] := by apply Array.ext'; simpa using hargs
    have hts' : ts = #[tx] := by apply Array.ext'; simpa using hts
    refine fin (s := Builtin.len_ ts ty (args.map a.eval)) rfl ?_
    rw [hargs', hts']
    split at hc
    · rename_i hu
      simp only [Option.map_eq_some_iff] at hc; obtain ⟨va, hva, rfl⟩ := hc
      simp only [VOp.map, vop] at h
      have hr := cArg_rep hf hi hva
      refine Sound.of_noIds h fun cc hcc => ?_
      cases hx : va.ev G t <;> simp only [hx, vlen, Option.some.injEq, reduceCtorEq] at hcc
      rename_i l
      rw [hx] at hr
      simp only [Rep] at hr
      subst hcc
      refine Sound.same (v := .int .i64 l.length) hi ?_ (by simp only [Rep])
      have hsz : (ByteArray.mk l.toArray).size = l.length := by show l.toArray.size = l.length; simp
      simp [Builtin.len_, run_underlying hu, hr, goInt, hsz]
    · rename_i e hu
      simp only [Option.map_eq_some_iff] at hc; obtain ⟨va, hva, rfl⟩ := hc
      simp only [VOp.map, vop] at h
      have hr := cArg_rep hf hi hva
      refine Sound.of_noIds h fun cc hcc => ?_
      have hrun : ∀ (ad : Option Addr) (n c : Nat), a.eval x = .slice ad n c → (Builtin.len_ #[tx] ty (#[x].map a.eval)).run P w = .ok (.int .i64 n) w := by
        intro ad n c he
        simp [Builtin.len_, run_underlying hu, he, goInt]
      cases hx : va.ev G t <;> simp only [hx, vlen, Option.some.injEq, reduceCtorEq] at hcc <;> rw [hx] at hr <;> simp only [Rep] at hr <;> subst hcc
      · obtain ⟨ad, cap, he, _⟩ := hr
        exact Sound.same hi (hrun _ _ _ he) (by simp only [Rep])
      · obtain ⟨ad, he, _⟩ := hr
        exact Sound.same hi (hrun _ _ _ he) (by simp only [Rep])
      · exact Sound.same hi (hrun _ _ _ hr) (by simp only [Rep]; rfl)
      · obtain ⟨g, N, cap, _, he, _⟩ := hr
        exact Sound.same hi (hrun _ _ _ he) (by simp only [Rep])
    · rename_i n e hu
      simp only [Option.map_eq_some_iff] at hc; obtain ⟨va, hva, rfl⟩ := hc
      simp only [VOp.map, vop] at h
      refine Sound.of_noIds h fun cc hcc => ?_
      simp only [Option.some.injEq] at hcc; subst hcc
      refine Sound.same (v := .int .i64 n) hi ?_ (by simp only [Rep])
      simp [Builtin.len_, run_underlying hu, goInt]
    · simp at hc
  · -- append
    rename_i s x t1 t2 hargs hts
    have hargs' : args = #[s, x] := by apply Array.ext'; simpa using hargs
    have hts' : ts = #[t1, t2] := by apply Array.ext'; simpa using hts
    refine fin (s := Builtin.append_ ts ty (args.map a.eval)) rfl ?_
    rw [hargs', hts']
    split at hc
    · rename_i e hu
      split at hc
      · rename_i i hie
        split at hc
        · rename_i hh
          obtain ⟨rfl, _, _, hz⟩ := hh
          split at hc
          · rename_i vs vx hvs hvx
            simp only [Option.some.injEq] at hc; subst hc
            simp only [VOp.map, vop] at h
            have := append_sound (ty := ty) hi hμ hσ hu hie hz (cArg_rep hf hi hvs) (cArg_rep hf hi hvx) h
            simpa using this
          · simp at hc
        · split at hc
          · rename_i kn z vs vx hkn hz hvs hvx
            split at hc
            · rename_i hpos
              simp only [Option.some.injEq] at hc; subst hc
              simp only [VOp.map, vop] at h
              have := appz_sound (P := P) (ty := ty) hi hμ hσ hu hie hkn hz hpos (cArg_rep hf hi hvs) (cArg_rep hf hi hvx) h
              simpa using this
            · simp at hc
          · simp at hc
      · simp at hc
    · simp at hc
  · -- cap
    rename_i x tx hargs hts
    have hargs' : args = #[x] := by apply Array.ext'; simpa using hargs
    have hts' : ts = #[tx] := by apply Array.ext'; simpa using hts
    refine fin (s := Builtin.cap_ ts ty (args.map a.eval)) rfl ?_
    rw [hargs', hts']
    split at hc
    · rename_i e hu
      simp only [Option.map_eq_some_iff] at hc; obtain ⟨va, hva, rfl⟩ := hc
      simp only [VOp.map, vop] at h
      have hr := cArg_rep hf hi hva
      rcases vcapR_spec h with h | ⟨id, k, off, len, bk, hx, hid, hoff, rfl⟩
      case inr =>
        rw [hx] at hr; simp only [Rep] at hr
        obtain ⟨g, N, cap, hmm, hv, h1, h2, h3, h4⟩ := hr
        obtain ⟨g', N', cur, ty', hB⟩ := hi.blk id bk hid
        rw [hB.μ] at hmm
        simp only [Option.some.injEq, Prod.mk.injEq] at hmm
        obtain ⟨rfl, _, rfl⟩ := hmm
        refine Sound.same (v := .int .i64 cap) hi (by simp [Builtin.cap_, run_underlying hu, hv, goInt]) ?_
        simp only [Rep]
        have := hB.len
        simp only [Bool.false_eq_true, if_false] at h4
        exact ⟨cap, by omega, rfl⟩
      refine Sound.of_noIds h fun cc hcc => ?_
      have hrun : ∀ (ad : Option Addr) (n c : Nat), a.eval x = .slice ad n c → (Builtin.cap_ #[tx] ty (#[x].map a.eval)).run P w = .ok (.int .i64 c) w := by
        intro ad n c he
        simp [Builtin.cap_, run_underlying hu, he, goInt]
      unfold vcap at hcc
      split at hcc
      · rename_i hx
        rw [hx] at hr; simp only [Rep] at hr
        simp only [Option.some.injEq] at hcc; subst hcc
        exact Sound.same hi (hrun _ _ _ hr) (by simp only [Rep]; rfl)
      · rename_i hx
        rw [hx] at hr; simp only [Rep] at hr
        simp only [Option.some.injEq] at hcc; subst hcc
        obtain ⟨ad, he, _⟩ := hr
        exact Sound.same hi (hrun _ _ _ he) (by simp only [Rep])
      · rename_i hx
        rw [hx] at hr; simp only [Rep, if_true] at hr
        simp only [Option.some.injEq] at hcc; subst hcc
        obtain ⟨g, N, cap, _, he, _, _, _, hcap⟩ := hr
        subst hcap
        exact Sound.same hi (hrun _ _ _ he) (by simp only [Rep])
      · simp at hcc
    · simp at hc
  · -- clear
    rename_i x tx hargs hts
    have hargs' : args = #[x] := by apply Array.ext'; simpa using hargs
    have hts' : ts = #[tx] := by apply Array.ext'; simpa using hts
    refine fin (s := Builtin.clear_ ts ty (args.map a.eval)) rfl ?_
    rw [hargs', hts']
    split at hc
    · rename_i e hu
      split at hc
      · rename_i z vx hz hvx
        split at hc
        · rename_i hpos
          simp only [Option.some.injEq] at hc; subst hc
          simp only [VOp.map, vop] at h
          have := clear_sound (P := P) (p := p) (ty := ty) hi hu hz hpos (cArg_rep hf hi hvx) h
          simpa using this
        · simp at hc
      · simp at hc
    · simp at hc
  · -- copy
    rename_i d x t1 t2 hargs hts
    have hargs' : args = #[d, x] := by apply Array.ext'; simpa using hargs
    have hts' : ts = #[t1, t2] := by apply Array.ext'; simpa using hts
    refine fin (s := Builtin.copy_ ts ty (args.map a.eval)) rfl ?_
    rw [hargs', hts']
    split at hc
    · rename_i e hu
      split at hc
      · rename_i i hie
        split at hc
        · split at hc
          · rename_i vd vx hvd hvx
            simp only [Option.some.injEq] at hc; subst hc
            simp only [VOp.map, vop] at h
            have := copy_sound (P := P) (p := p) (ty := ty) (t2 := t2) hi hu hie (cArg_rep hf hi hvd) (cArg_rep hf hi hvx) h
            simpa using this
          · simp at hc
        · simp at hc
      · simp at hc
    · simp at hc
  · -- min
    rename_i x y hargs
    have hargs' : args = #[x, y] := by apply Array.ext'; simpa using hargs
    refine fin (s := Builtin.min_ ts ty (args.map a.eval)) rfl ?_
    rw [hargs']
    split at hc
    · rename_i vx vy hvx hvy
      simp only [Option.some.injEq] at hc; subst hc
      simp only [VOp.map, vop] at h
      have hrx := cArg_rep hf hi hvx
      have hry := cArg_rep hf hi hvy
      split at h
      · rename_i k n k' m hx hy
        rw [hx] at hrx; rw [hy] at hry
        simp only [Rep] at hrx hry
        refine Sound.of_noIds h fun cc hcc => ?_
        simp only [Option.some.injEq] at hcc; subst hcc
        refine Sound.same (v := .int k (if m < n then m else n)) hi ?_ (by simp only [Rep])
        simp [Builtin.min_, hrx, hry, Builtin.min2]
      · simp at h
    · simp at hc
  · -- max
    rename_i x y hargs
    have hargs' : args = #[x, y] := by apply Array.ext'; simpa using hargs
    refine fin (s := Builtin.max_ ts ty (args.map a.eval)) rfl ?_
    rw [hargs']
    split at hc
    · rename_i vx vy hvx hvy
      simp only [Option.some.injEq] at hc; subst hc
      simp only [VOp.map, vop] at h
      have hrx := cArg_rep hf hi hvx
      have hry := cArg_rep hf hi hvy
      split at h
      · rename_i k n k' m hx hy
        rw [hx] at hrx; rw [hy] at hry
        simp only [Rep] at hrx hry
        refine Sound.of_noIds h fun cc hcc => ?_
        simp only [Option.some.injEq] at hcc; subst hcc
        refine Sound.same (v := .int k (if m > n then m else n)) hi ?_ (by simp only [Rep])
        simp [Builtin.max_, hrx, hry, Builtin.max2]
      · simp at h
    · simp at hc
  · simp at hc

theorem bytesOf_spec : ∀ {ys : List AV} {l : List UInt8}, bytesOf ys = some l → ∃ zs : List Int, ys = zs.map (AV.int .u8) ∧ l = zs.map fun n => UInt8.ofNat n.toNat
  | [], l, h => by simp only [bytesOf, Option.some.injEq] at h; subst h; exact ⟨[], rfl, rfl⟩
  | .int .u8 n :: r, l, h => by
    simp only [bytesOf, Option.map_eq_some_iff] at h
    obtain ⟨l', h1, rfl⟩ := h
    obtain ⟨zs, rfl, rfl⟩ := bytesOf_spec h1
    exact ⟨n :: zs, rfl, rfl⟩

theorem flat_ints (k : IntKind) : ∀ zs : List Int, flat (zs.map (AV.int k)) = zs.map (AV.int k)
  | [] => rfl
  | z :: zs => by have := flat_ints k zs; simp only [List.map_cons, flat, List.flatMap_cons, AV.cells] at this ⊢; rw [this]; rfl

theorem bytesStr_sound (hi : Inv G own E w σ) {src dst e : TypeId} (hs : P.underlying src = some (.slice e)) (he : P.underlying e = some (.int .u8)) (hd : P.underlying dst = some .string) {x : AV} {v : Value} (hx : Rep E w x v) {r : Res} (h : vbytesStr σ x = some r) :
    Sound P G own E w σ p (convert src dst v) r := by
  unfold vbytesStr at h
  split at h
  · rename_i ys rd hel
    simp only [Option.map_eq_some_iff] at h
    obtain ⟨l, hl, rfl⟩ := h
    obtain ⟨zs, rfl, rfl⟩ := bytesOf_spec hl
    obtain ⟨_, a, cap, rfl, hle, hr⟩ := elems_rep hi hx hel
    refine Sound.same (v := .string ⟨(zs.map fun n => UInt8.ofNat n.toNat).toArray⟩) hi ?_ (by simp [Rep])
    rcases hr with hr | ⟨b, o, rfl, hr⟩
    · have hz : zs = [] := by simpa using hr
      subst hz
      rw [run_convert_bytes_string w src dst e _ _ _ hs he hd]
      cases a with
      | none => simp [Conv.bytesToString]; rfl
      | some a =>
        rw [run_bytesToString w a _ _ [] (by simp [loadCells, loadCellsFrom])]
        rfl
    · rw [flat_ints] at hr
      have := run_convert_bytes_arg (P := P) w src e hs he b o zs.length cap zs rfl (fun i hil => by
        obtain ⟨v, h1, h2⟩ := hr i (.int .u8 zs[i]) (by rw [List.getElem?_map, List.getElem?_eq_getElem hil]; rfl)
        simp only [Rep] at h2
        subst h2
        have hplain : (⟨b, o, none⟩ : Addr).add i = ⟨b, o + i, none⟩ := by simp [Addr.add]
        first | rw [hplain] at h1 | skip
        rw [h1, List.getD_eq_getElem?_getD, List.getElem?_eq_getElem hil]; rfl) dst hd
      simpa [strOfNums] using this
  · simp at h

theorem op_sound0 (hi : Inv G own E w σ) (hμ : E.μ p = none) (hσ : σ p = none) {t : List AV} {a : Act} (hf : FrameRep E w t a) {o : Oper} {vo : VOp VArg} (hc : cOp0 P o.op = some vo) {r : Res}
    (h : vop σ p (vo.map (VArg.ev G t)) = some r) : OpDone P G own E w σ p r (execOp a.eval o) := by
  unfold execOp
  cases ho : o.op <;> rw [ho] at hc <;> simp only [] 
  case move x =>
    simp only [cOp0, Option.map_eq_some_iff] at hc; obtain ⟨va, hva, rfl⟩ := hc
    simp only [VOp.map, vop, noIds, Option.map_some, Option.some.injEq] at h; subst h
    exact ⟨a.eval x, w, E, .inl rfl, Adv.refl own E w, hi, cArg_rep hf hi hva, fun _ _ => rfl⟩
  case assign x =>
    simp only [cOp0, Option.map_eq_some_iff] at hc; obtain ⟨va, hva, rfl⟩ := hc
    simp only [VOp.map, vop, noIds, Option.map_some, Option.some.injEq] at h; subst h
    exact ⟨a.eval x, w, E, .inl rfl, Adv.refl own E w, hi, cArg_rep hf hi hva, fun _ _ => rfl⟩
  case pick c x y =>
    simp only [cOp0] at hc
    cases hvc : cArg c with
    | none => simp [hvc] at hc
    | some vc =>
    cases hvx : cArg x with
    | none => simp [hvc, hvx] at hc
    | some vx =>
    cases hvy : cArg y with
    | none => simp [hvc, hvx, hvy] at hc
    | some vy =>
      simp only [hvc, hvx, hvy, Option.some.injEq] at hc; subst hc
      simp only [VOp.map, vop] at h
      have hrc := cArg_rep hf hi hvc
      have hrx := cArg_rep hf hi hvx
      have hry := cArg_rep hf hi hvy
      split at h
      · rename_i b hb
        rw [hb] at hrc
        simp only [Rep] at hrc
        simp only [noIds, Option.map_some, Option.some.injEq] at h; subst h
        refine ⟨if b then a.eval x else a.eval y, w, E, .inl (by simp [hrc, asBool]), Adv.refl own E w, hi, ?_, fun _ _ => rfl⟩
        cases b
        · exact hry
        · exact hrx
      · simp at h
  case alloc ty =>
    simp only [cOp0, Option.map_eq_some_iff] at hc; obtain ⟨z, hz, rfl⟩ := hc
    simp only [VOp.map, vop, VArg.ev] at h
    obtain ⟨it, zv, hit, hzv, hzc, hzs, hzo⟩ := zeroAV_spec hz
    split at h
    · simp only [Option.some.injEq] at h; subst h
      have := box_sound (P := P) (p := p) hi hμ hσ (constAV_rep hzc) hzo ty
      refine OpDone.of ?_
      obtain ⟨v, w', E', hr, hp⟩ := this
      refine ⟨v, w', E', ?_, hp⟩
      simp only [Instr.alloc, Sem.run_bind, zeroValue_run hit hzv, Result.andThen_ok]
      exact hr
    · rename_i hno; exact absurd hzo hno
  case box ty x =>
    simp only [cOp0, Option.map_eq_some_iff] at hc; obtain ⟨va, hva, rfl⟩ := hc
    simp only [VOp.map, vop] at h
    split at h
    · rename_i hone
      simp only [Option.some.injEq] at h; subst h
      exact OpDone.of (box_sound hi hμ hσ (cArg_rep hf hi hva) hone ty)
    · simp at h
  case build ty ps => exact OpDone.of (build_sound hi hf hc h)
  case buildSlice ty n ps => exact OpDone.of (buildSl_sound hi hμ hσ hf hc h)
  case load ty x =>
    simp only [cOp0] at hc
    cases ha : isAggT P ty with
    | none => simp [ha] at hc
    | some g =>
    cases hti : P.info? ty with
    | none => simp [ha, hti] at hc
    | some i =>
    cases hvx : cArg x with
    | none => simp [ha, hti, hvx] at hc
    | some vx =>
      simp only [ha, hti, hvx] at hc
      split at hc
      · simp only [Option.some.injEq] at hc; subst hc
        simp only [VOp.map, vop] at h
        exact OpDone.of (vload_sound hi ha hti (cArg_rep hf hi hvx) h)
      · simp at hc
  case store ty x y =>
    simp only [cOp0] at hc
    cases hti : P.info? ty with
    | none => simp [hti] at hc
    | some i =>
    cases hvx : cArg x with
    | none => simp [hti, hvx] at hc
    | some vx =>
    cases hvy : cArg y with
    | none => simp [hti, hvx, hvy] at hc
    | some vy =>
      simp only [hti, hvx, hvy, Option.some.injEq] at hc; subst hc
      simp only [VOp.map, vop] at h
      exact OpDone.ofU (vstore_sound hi hti (cArg_rep hf hi hvx) (cArg_rep hf hi hvy) h)
  case nilCheck x =>
    simp only [cOp0, Option.map_eq_some_iff] at hc; obtain ⟨va, hva, rfl⟩ := hc
    simp only [VOp.map, vop] at h
    have hr := cArg_rep hf hi hva
    split at h
    · rename_i id e q hx
      simp only [noIds, Option.map_some, Option.some.injEq] at h; subst h
      rw [hx] at hr ⊢
      have hr' := hr
      simp only [Rep] at hr
      obtain ⟨g, k, N, hm, he⟩ := hr
      exact ⟨a.eval x, w, E, .inl (by rw [he]; rfl), Adv.refl own E w, hi, hr', fun _ _ => rfl⟩
    · rename_i cs q hx
      simp only [noIds, Option.map_some, Option.some.injEq] at h; subst h
      rw [hx] at hr ⊢
      have hr' := hr
      simp only [Rep] at hr
      obtain ⟨b, q, he, _⟩ := hr
      exact ⟨a.eval x, w, E, .inl (by rw [he]; rfl), Adv.refl own E w, hi, hr', fun _ _ => rfl⟩
    · rename_i f l1 l2 hx
      simp only [noIds, Option.map_some, Option.some.injEq] at h; subst h
      rw [hx] at hr ⊢
      have hr' := hr
      simp only [Rep] at hr
      obtain ⟨xs, ys, he, _⟩ := hr
      exact ⟨a.eval x, w, E, .inl (by rw [he]; rfl), Adv.refl own E w, hi, hr', fun _ _ => rfl⟩
    · simp at h
  case binOp op ty x y ty' =>
    simp only [cOp0] at hc
    cases hsh : shOf P ty with
    | none => simp [hsh] at hc
    | some sh =>
    cases hvx : cArg x with
    | none => simp [hsh, hvx] at hc
    | some vx =>
    cases hvy : cArg y with
    | none => simp [hsh, hvx, hvy] at hc
    | some vy =>
      simp only [hsh, hvx, hvy, Option.some.injEq] at hc; subst hc
      simp only [VOp.map, vop] at h
      refine OpDone.of (Sound.of_noIds h fun c hcc => ?_)
      unfold vbinq at hcc
      split at hcc
      · rename_i c' hcc'
        simp only [Option.some.injEq] at hcc; subst hcc
        obtain ⟨h1, h2, h3, h4⟩ := vbin_run (P := P) hsh hcc' (cArg_rep hf hi hvx) (cArg_rep hf hi hvy)
        refine Sound.same hi ?_ (rep_plain h2)
        simp only [Sem.run_bind, eqGuard_none op ty x y _ _ h3 h4, Result.andThen_ok]
        exact h1
      · obtain ⟨⟨q, h1, h2⟩, h3, h4⟩ := vnilq_run (P := P) hsh hcc (cArg_rep hf hi hvx) (cArg_rep hf hi hvy)
        refine Sound.same (v := .bool q) hi ?_ h1
        simp only [Sem.run_bind, eqGuard_none op ty x y _ _ h3 h4, Result.andThen_ok]
        exact h2
  case unOp op ty x =>
    simp only [cOp0, Option.map_eq_some_iff] at hc; obtain ⟨va, hva, rfl⟩ := hc
    simp only [VOp.map, vop] at h
    refine OpDone.of (Sound.of_noIds h fun c hcc => ?_)
    obtain ⟨h1, h2⟩ := vun_run (P := P) hcc (cArg_rep hf hi hva)
    exact Sound.same hi h1 (rep_plain h2)
  case convert src dst x =>
    simp only [cOp0] at hc
    split at hc
    · rename_i k1 k2 h1 h2
      simp only [Option.map_eq_some_iff] at hc; obtain ⟨va, hva, rfl⟩ := hc
      simp only [VOp.map, vop] at h
      have hr := cArg_rep hf hi hva
      split at h
      · rename_i k n hx
        rw [hx] at hr
        simp only [Rep] at hr
        simp only [noIds, Option.map_some, Option.some.injEq] at h; subst h
        refine OpDone.of (Sound.same (v := .int k2 (k2.wrap n)) hi ?_ (by simp [Rep]))
        rw [hr]
        simp [convert, run_underlying h1, run_underlying h2, Conv.intToInt]
      · simp at h
    · rename_i h1 h2
      simp only [Option.map_eq_some_iff] at hc; obtain ⟨va, hva, rfl⟩ := hc
      simp only [VOp.map, vop] at h
      have hr := cArg_rep hf hi hva
      split at h
      · rename_i l hx
        rw [hx] at hr h
        have hr' := hr
        simp only [Rep] at hr
        simp only [noIds, Option.map_some, Option.some.injEq] at h; subst h
        refine OpDone.of (Sound.same hi ?_ hr')
        rw [hr]
        simp [convert, run_underlying h1, run_underlying h2]
      · simp at h
    · rename_i e h1 h2
      split at hc
      · rename_i he
        simp only [Option.map_eq_some_iff] at hc; obtain ⟨va, hva, rfl⟩ := hc
        simp only [VOp.map, vop] at h
        exact OpDone.of (bytesStr_sound hi h1 he h2 (cArg_rep hf hi hva) h)
      · simp at hc
    · simp at hc
  case makeFunc fn first cap =>
    simp only [cOp0] at hc
    cases h1 : cArgs first with
    | none => simp [h1] at hc
    | some va =>
    cases h2 : cArgs cap with
    | none => simp [h1, h2] at hc
    | some vc =>
      simp only [h1, h2, Option.some.injEq] at hc; subst hc
      simp only [VOp.map, vop, noIds, Option.map_some, Option.some.injEq] at h; subst h
      refine OpDone.of (Sound.same (v := .func fn (first.map a.eval) (cap.map a.eval)) hi (by simp [Instr.makeFunc]) ?_)
      simp only [Rep]
      exact ⟨_, _, rfl, cArgs_rep hf hi h1, cArgs_rep hf hi h2⟩
  case makeSlice ty l c =>
    simp only [cOp0] at hc
    cases hu : P.underlying ty with
    | none => simp [hu] at hc
    | some d =>
    cases d <;> simp only [hu, reduceCtorEq] at hc
    rename_i e
    cases hie : P.info? e with
    | none => simp [hie] at hc
    | some i =>
    cases hz : zeroAV P e with
    | none => simp [hie, hz] at hc
    | some z =>
    cases hvl : cArg l with
    | none => simp [hie, hz, hvl] at hc
    | some vl =>
    cases hvc : cArg c with
    | none => simp [hie, hz, hvl, hvc] at hc
    | some vc =>
      simp only [hie, hz, hvl, hvc] at hc
      split at hc
      · rename_i hh
        simp only [Option.some.injEq] at hc; subst hc
        simp only [VOp.map, vop] at h
        exact OpDone.of (mksl_sound hi hμ hσ hu hie hz hh.1 (cArg_rep hf hi hvl) (cArg_rep hf hi hvc) h)
      · simp at hc
  case slice ty x lo hi' mx =>
    simp only [cOp0] at hc
    cases hu : P.underlying ty with
    | none => simp [hu] at hc
    | some d =>
    cases d <;> simp only [hu, reduceCtorEq] at hc
    case string =>
      cases hvx : cArg x with
      | none => simp [hvx] at hc
      | some vx =>
      cases hvl : cOpt lo with
      | none => simp [hvx, hvl] at hc
      | some vl =>
      cases hvh : cOpt hi' with
      | none => simp [hvx, hvl, hvh] at hc
      | some vh =>
      cases mx with
      | some _ => simp [hvx, hvl, hvh] at hc
      | none =>
        simp only [hvx, hvl, hvh, Option.some.injEq] at hc; subst hc
        simp only [VOp.map, vop] at h
        refine OpDone.of (Sound.of_noIds h fun c hcc => ?_)
        exact vsliceS_sound hi hu (cArg_rep hf hi hvx) (cOpt_rep hf hi hvl) (cOpt_rep hf hi hvh) hcc
    case slice e =>
      cases hie : P.info? e with
      | none => simp [hie] at hc
      | some i =>
      cases hvx : cArg x with
      | none => simp [hie, hvx] at hc
      | some vx =>
      cases hvl : cOpt lo with
      | none => simp [hie, hvx, hvl] at hc
      | some vl =>
      cases hvh : cOpt hi' with
      | none => simp [hie, hvx, hvl, hvh] at hc
      | some vh =>
      cases hvm : cOpt mx with
      | none => simp [hie, hvx, hvl, hvh, hvm] at hc
      | some vm =>
        simp only [hie, hvx, hvl, hvh, hvm] at hc
        split at hc
        · rename_i hh
          simp only [Option.some.injEq] at hc; subst hc
          simp only [VOp.map, vop] at h
          exact OpDone.of (vsliceR_sound hi hu hie (cArg_rep hf hi hvx) (cOpt_rep hf hi hvl) (cOpt_rep hf hi hvh) (cOpt_rep hf hi hvm) (by simpa using hh) h)
        · simp at hc
  case fieldAddr s x f =>
    simp only [cOp0] at hc
    cases hu : P.underlying s with
    | none => simp [hu] at hc
    | some d =>
    cases d <;> simp only [hu, reduceCtorEq] at hc
    rename_i fs
    cases hfd : fs[f]? with
    | none => simp [hfd] at hc
    | some fd =>
    simp only [hfd] at hc
    cases hie : P.info? fd.type with
    | none => simp [hie] at hc
    | some i =>
    cases hvx : cArg x with
    | none => simp [hie, hvx] at hc
    | some vx =>
      simp only [hie, hvx] at hc
      split at hc
      · simp at hc
      · rename_i h0
        simp only [Option.some.injEq] at hc; subst hc
        exact OpDone.of (faddr_sound hi hu hfd hie h0 (cArg_rep hf hi hvx) h)
  case field s x f =>
    simp only [cOp0] at hc
    cases hu : P.underlying s with
    | none => simp [hu] at hc
    | some d =>
    cases d <;> simp only [hu, reduceCtorEq] at hc
    rename_i fs
    cases hfd : fs[f]? with
    | none => simp [hfd] at hc
    | some fd =>
    simp only [hfd] at hc
    cases hag : isAggT P fd.type with
    | none => simp [hag] at hc
    | some g =>
    cases hie : P.info? fd.type with
    | none => simp [hag, hie] at hc
    | some i =>
    cases hvx : cArg x with
    | none => simp [hag, hie, hvx] at hc
    | some vx =>
      simp only [hag, hie, hvx, Option.some.injEq] at hc; subst hc
      simp only [VOp.map, vop] at h
      have hr := cArg_rep hf hi hvx
      split at h
      · rename_i cs hx
        rw [hx] at hr
        simp only [Rep] at hr
        obtain ⟨xs, he, hr⟩ := hr
        refine OpDone.of (Sound.of_noIds h fun c hcc => ?_)
        obtain ⟨v, hv, hrv⟩ := part_run (P := P) hag hie hr hcc
        refine Sound.same hi ?_ hrv
        rw [he]
        simp [Instr.field, run_underlying hu, hfd, asAgg, hv]
      · simp at h
  case indexAddr ty x ix =>
    simp only [cOp0] at hc
    cases hu : P.underlying ty with
    | none => simp [hu] at hc
    | some d =>
    cases d <;> simp only [hu, reduceCtorEq] at hc
    case slice e =>
      cases hie : P.info? e with
      | none => simp [hie] at hc
      | some i =>
      cases hvx : cArg x with
      | none => simp [hie, hvx] at hc
      | some vx =>
      cases hvi : cArg ix with
      | none => simp [hie, hvx, hvi] at hc
      | some vi =>
        simp only [hie, hvx, hvi, Option.some.injEq] at hc; subst hc
        simp only [VOp.map, vop] at h
        refine OpDone.of (Sound.of_noIds h fun c hcc => ?_)
        exact iaddrS_sound hi hu hie (cArg_rep hf hi hvx) (cArg_rep hf hi hvi) hcc
    case array n e =>
      cases hie : P.info? e with
      | none => simp [hie] at hc
      | some i =>
      cases hvx : cArg x with
      | none => simp [hie, hvx] at hc
      | some vx =>
      cases hvi : cArg ix with
      | none => simp [hie, hvx, hvi] at hc
      | some vi =>
        simp only [hie, hvx, hvi, Option.some.injEq] at hc; subst hc
        simp only [VOp.map, vop] at h
        refine OpDone.of (Sound.of_noIds h fun c hcc => ?_)
        exact iaddrA_sound hi hu hie (cArg_rep hf hi hvx) (cArg_rep hf hi hvi) hcc
  case index ty x ix =>
    simp only [cOp0] at hc
    cases hu : P.underlying ty with
    | none => simp [hu] at hc
    | some d =>
    cases d <;> simp only [hu, reduceCtorEq] at hc
    case string =>
      cases hvx : cArg x with
      | none => simp [hvx] at hc
      | some vx =>
      cases hvi : cArg ix with
      | none => simp [hvx, hvi] at hc
      | some vi =>
        simp only [hvx, hvi, Option.some.injEq] at hc; subst hc
        simp only [VOp.map, vop] at h
        have hr := cArg_rep hf hi hvx
        have hri := cArg_rep hf hi hvi
        split at h
        · rename_i s k n hx hn
          rw [hx] at hr; rw [hn] at hri
          simp only [Rep] at hr hri
          split at h
          · rename_i h0
            refine OpDone.of (Sound.of_noIds h fun c hcc => ?_)
            simp only [Option.map_eq_some_iff] at hcc
            obtain ⟨b, hb, rfl⟩ := hcc
            refine Sound.same (v := .int .u8 b.toNat) hi ?_ (by simp [Rep])
            rw [hr, hri]
            have hb' : (ByteArray.mk s.toArray)[n.toNat]? = some b := by
              have hlt := (List.getElem?_eq_some_iff.1 hb)
              obtain ⟨h1, h2⟩ := hlt
              rw [getElem?_pos (ByteArray.mk s.toArray) n.toNat (by simpa [ByteArray.size] using h1)]
              congr 1
            simp [Instr.index, run_underlying hu, asIntOf, h0, hb']
          · simp at h
        · simp at h
    case array n e =>
      cases hag : isAggT P e with
      | none => simp [hag] at hc
      | some g =>
      cases hie : P.info? e with
      | none => simp [hag, hie] at hc
      | some i =>
      cases hvx : cArg x with
      | none => simp [hag, hie, hvx] at hc
      | some vx =>
      cases hvi : cArg ix with
      | none => simp [hag, hie, hvx, hvi] at hc
      | some vi =>
        simp only [hag, hie, hvx, hvi, Option.some.injEq] at hc; subst hc
        simp only [VOp.map, vop] at h
        have hr := cArg_rep hf hi hvx
        have hri := cArg_rep hf hi hvi
        split at h
        · rename_i cs k m hx hn
          rw [hx] at hr; rw [hn] at hri
          simp only [Rep] at hr hri
          obtain ⟨xs, he, hr⟩ := hr
          split at h
          · rename_i h0
            refine OpDone.of (Sound.of_noIds h fun c hcc => ?_)
            obtain ⟨v, hv, hrv⟩ := part_run (P := P) hag hie hr hcc
            refine Sound.same hi ?_ hrv
            rw [he, hri]
            simp [Instr.index, run_underlying hu, asIntOf, h0, sizeOf_run hie, hv]
          · simp at h
        · simp at h
  case extract x i =>
    simp only [cOp0, Option.map_eq_some_iff] at hc; obtain ⟨va, hva, rfl⟩ := hc
    simp only [VOp.map, vop] at h
    have hr := cArg_rep hf hi hva
    split at h
    · rename_i vs hx
      rw [hx] at hr
      simp only [Rep] at hr
      obtain ⟨xs, he, hr⟩ := hr
      refine OpDone.of (Sound.of_noIds h fun c hcc => ?_)
      obtain ⟨v, hv, hrv⟩ := (repL_iff.1 hr).2 i c hcc
      refine Sound.same hi ?_ hrv
      rw [he]
      simp at hv
      simp [Instr.extract, hv]
    · simp at h
  case call c =>
    simp only [cOp0] at hc
    cases hcal : c.callee with
    | value f =>
      simp only [hcal] at hc
      split at hc
      · split at hc
        · simp only [Option.some.injEq] at hc; subst hc
          simp [VOp.map, vop] at h
        · simp at hc
      · rename_i k hk
        unfold cExt at hc
        split at hc
        · rename_i x y hargs
          split at hc
          · rename_i vx vy hvx hvy
            simp only [Option.some.injEq] at hc; subst hc
            cases k with
            | idx =>
              simp only [VOp.map, vop] at h
              have hh := idx_sound (p := p) ho hcal hk hargs hi (cArg_rep hf hi hvx) (cArg_rep hf hi hvy) h
              unfold execOp at hh; simp only [ho] at hh; exact hh
            | ovl =>
              simp only [VOp.map, vop] at h
              have hh := ovl_sound (p := p) ho hcal hk hargs hi (cArg_rep hf hi hvx) (cArg_rep hf hi hvy) h
              unfold execOp at hh; simp only [ho] at hh; exact hh
          · simp at hc
        · simp at hc
    | invoke _ _ => simp [hcal] at hc
    | builtin b =>
      simp only [hcal] at hc
      have hres : ∀ w, (do let d ← resolve a.eval c o.type; invoke d.target d.args : Sem Next).run P w =
          (builtin b c.argTypes o.type (c.args.map fun | .const _ => true | _ => false) (c.args.map a.eval)).run P w := by
        intro w; simp [resolve, hcal, invoke]; rfl
      have fin : ∀ {s : Sem Value}, builtin b c.argTypes o.type (c.args.map fun | .const _ => true | _ => false) (c.args.map a.eval) = (do pure (.value (← s))) → Sound P G own E w σ p s r →
          OpDone P G own E w σ p r (do let d ← resolve a.eval c o.type; invoke d.target d.args) := by
        intro s he hs
        obtain ⟨v, w', E', hr, hp⟩ := hs
        exact ⟨v, w', E', .inl (by rw [hres, he]; simp [hr]), hp⟩
      exact builtin_sound hi hμ hσ hf hc h fin
  all_goals simp [cOp0] at hc

theorem op_sound (hi : Inv G own E w σ) (hμ : E.μ p = none) (hσ : σ p = none) {t : List AV} {a : Act} (hf : FrameRep E w t a) {o : Oper} {vo : VOp VArg} (hc : cOp P o.op = some vo) {r : Res}
    (h : vop σ p (vo.map (VArg.ev G t)) = some r) : OpDone P G own E w σ p r (execOp a.eval o) := by
  unfold cOp at hc
  split at hc
  · rename_i v hv
    simp only [Option.some.injEq] at hc; subst hc
    exact op_sound0 hi hμ hσ hf hv h
  · simp only [Option.some.injEq] at hc; subst hc
    simp [VOp.map, vop] at h

end

end Go.VL
