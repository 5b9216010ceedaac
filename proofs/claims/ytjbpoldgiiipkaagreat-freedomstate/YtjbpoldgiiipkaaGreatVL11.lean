/- The V-layer, part 11: every operation other than a call does what its tree says. -/
import Derived.Test.YtjbpoldgiiipkaaGreatVL10
namespace Go.VL

section
variable {P : Program} {G : Nat → Option (List AV)} {own : Nat → Prop} {E : Env} {w : World} {σ : Store} {p : Id}

/-- The operation comes to r. -/
def OpDone (P : Program) (G : Nat → Option (List AV)) (own : Nat → Prop) (E : Env) (w : World) (σ : Store) (p : Id) (r : Res) (s : Sem Next) : Prop :=
  ∃ v w' E', (s.run P w = .ok (.value v) w' ∨ (s.run P w = .ok .skip w' ∧ v = undef)) ∧ OpPost G own E w σ p r v E' w'

theorem OpDone.of {s : Sem Value} {r : Res} (h : Sound P G own E w σ p s r) : OpDone P G own E w σ p r (do pure (.value (← s))) := by
  obtain ⟨v, w', E', hr, hp⟩ := h
  exact ⟨v, w', E', .inl (by simp [hr]), hp⟩

theorem OpDone.ofU {s : Sem Unit} {r : Res} (h : ∃ w', s.run P w = .ok () w' ∧ OpPost G own E w σ p r undef E w') : OpDone P G own E w σ p r (do s; pure .skip) := by
  obtain ⟨w', hr, hp⟩ := h
  exact ⟨undef, w', E, .inr ⟨by simp [hr], rfl⟩, hp⟩

theorem cOpt_rep {t : List AV} {a : Act} (hf : FrameRep E w t a) (hi : Inv G own E w σ) {x : Option Operand} {vx : Option VArg} (h : cOpt x = some vx) : OptRep E w (vx.map (VArg.ev G t)) (x.map a.eval) := by
  cases x with
  | none => simp only [cOpt, Option.some.injEq] at h; subst h; trivial
  | some x =>
    simp only [cOpt, Option.map_eq_some_iff] at h
    obtain ⟨va, hva, rfl⟩ := h
    exact cArg_rep hf hi hva

theorem builtin_sound (hi : Inv G own E w σ) (hμ : E.μ p = none) (hσ : σ p = none) {t : List AV} {a : Act} (hf : FrameRep E w t a) {b : Builtin} {args : Array Operand} {ts : Array TypeId} {ty : TypeId} {cs : Array Bool} {vo : VOp VArg}
    (hc : cBuiltin P b args ts = some vo) {r : Res} (h : vop σ p (vo.map (VArg.ev G t)) = some r) {R : Prop}
    (fin : ∀ {s : Sem Value}, builtin b ts ty cs (args.map a.eval) = (do pure (.value (← s))) → Sound P G own E w σ p s r → R) : R := by
  unfold cBuiltin at hc
  split at hc
  · -- len
    rename_i x tx hargs hts
    have hargs' : args = #[x] := by apply Array.ext'; simpa using hargs
    have hts' : ts = #[tx] := by apply Array.ext'; simpa using hts
    refine fin (s := Builtin.len_ ts ty (args.map a.eval)) rfl ?_
    rw [hargs', hts']
    split at hc
    · rename_i hu
      simp only [Option.map_eq_some_iff] at hc; obtain ⟨va, hva, rfl⟩ := hc
      simp only [VOp.map, vop] at h
      have hr := cArg_rep hf hi hva
      refine Sound.of_noIds h fun cc hcc => ?_
      cases hx : va.ev G t <;> simp only [hx, vlen, Option.some.injEq, reduceCtorEq] at hcc
      rename_i l
      rw [hx] at hr
      simp only [Rep] at hr
      subst hcc
      refine Sound.same (v := .int .i64 l.length) hi ?_ (by simp only [Rep])
      have hsz : (ByteArray.mk l.toArray).size = l.length := by show l.toArray.size = l.length; simp
      simp [Builtin.len_, run_underlying hu, hr, goInt, hsz]
    · rename_i e hu
      simp only [Option.map_eq_some_iff] at hc; obtain ⟨va, hva, rfl⟩ := hc
      simp only [VOp.map, vop] at h
      have hr := cArg_rep hf hi hva
      refine Sound.of_noIds h fun cc hcc => ?_
      have hrun : ∀ (ad : Option Addr) (n c : Nat), a.eval x = .slice ad n c → (Builtin.len_ #[tx] ty (#[x].map a.eval)).run P w = .ok (.int .i64 n) w := by
        intro ad n c he
        simp [Builtin.len_, run_underlying hu, he, goInt]
      cases hx : va.ev G t <;> simp only [hx, vlen, Option.some.injEq, reduceCtorEq] at hcc <;> rw [hx] at hr <;> simp only [Rep] at hr <;> subst hcc
      · obtain ⟨ad, cap, he, _⟩ := hr
        exact Sound.same hi (hrun _ _ _ he) (by simp only [Rep])
      · obtain ⟨ad, he, _⟩ := hr
        exact Sound.same hi (hrun _ _ _ he) (by simp only [Rep])
      · exact Sound.same hi (hrun _ _ _ hr) (by simp only [Rep]; rfl)
      · obtain ⟨g, N, cap, _, he, _⟩ := hr
        exact Sound.same hi (hrun _ _ _ he) (by simp only [Rep])
    · rename_i n e hu
      simp only [Option.map_eq_some_iff] at hc; obtain ⟨va, hva, rfl⟩ := hc
      simp only [VOp.map, vop] at h
      refine Sound.of_noIds h fun cc hcc => ?_
      simp only [Option.some.injEq] at hcc; subst hcc
      refine Sound.same (v := .int .i64 n) hi ?_ (by simp only [Rep])
      simp [Builtin.len_, run_underlying hu, goInt]
    · simp at hc
  · -- append
    rename_i s x t1 t2 hargs hts
    have hargs' : args = #[s, x] := by apply Array.ext'; simpa using hargs
    have hts' : ts = #[t1, t2] := by apply Array.ext'; simpa using hts
    refine fin (s := Builtin.append_ ts ty (args.map a.eval)) rfl ?_
    rw [hargs', hts']
    split at hc
    · rename_i e hu
      split at hc
      · rename_i i hie
        split at hc
        · rename_i hh
          obtain ⟨rfl, _, _, hz⟩ := hh
          split at hc
          · rename_i vs vx hvs hvx
            simp only [Option.some.injEq] at hc; subst hc
            simp only [VOp.map, vop] at h
            have := append_sound (ty := ty) hi hμ hσ hu hie hz (cArg_rep hf hi hvs) (cArg_rep hf hi hvx) h
            simpa using this
          · simp at hc
        · split at hc
          · rename_i kn z vs vx hkn hz hvs hvx
            split at hc
            · rename_i hpos
              simp only [Option.some.injEq] at hc; subst hc
              simp only [VOp.map, vop] at h
              have := appz_sound (P := P) (ty := ty) hi hμ hσ hu hie hkn hz hpos (cArg_rep hf hi hvs) (cArg_rep hf hi hvx) h
              simpa using this
            · simp at hc
          · simp at hc
      · simp at hc
    · simp at hc
  · -- cap
    rename_i x tx hargs hts
    have hargs' : args = #[x] := by apply Array.ext'; simpa using hargs
    have hts' : ts = #[tx] := by apply Array.ext'; simpa using hts
    refine fin (s := Builtin.cap_ ts ty (args.map a.eval)) rfl ?_
    rw [hargs', hts']
    split at hc
    · rename_i e hu
      simp only [Option.map_eq_some_iff] at hc; obtain ⟨va, hva, rfl⟩ := hc
      simp only [VOp.map, vop] at h
      have hr := cArg_rep hf hi hva
      refine Sound.of_noIds h fun cc hcc => ?_
      have hrun : ∀ (ad : Option Addr) (n c : Nat), a.eval x = .slice ad n c → (Builtin.cap_ #[tx] ty (#[x].map a.eval)).run P w = .ok (.int .i64 c) w := by
        intro ad n c he
        simp [Builtin.cap_, run_underlying hu, he, goInt]
      unfold vcap at hcc
      split at hcc
      · rename_i hx
        rw [hx] at hr; simp only [Rep] at hr
        simp only [Option.some.injEq] at hcc; subst hcc
        exact Sound.same hi (hrun _ _ _ hr) (by simp only [Rep]; rfl)
      · rename_i hx
        rw [hx] at hr; simp only [Rep] at hr
        simp only [Option.some.injEq] at hcc; subst hcc
        obtain ⟨ad, he, _⟩ := hr
        exact Sound.same hi (hrun _ _ _ he) (by simp only [Rep])
      · rename_i hx
        rw [hx] at hr; simp only [Rep, if_true] at hr
        simp only [Option.some.injEq] at hcc; subst hcc
        obtain ⟨g, N, cap, _, he, _, _, _, hcap⟩ := hr
        subst hcap
        exact Sound.same hi (hrun _ _ _ he) (by simp only [Rep])
      · simp at hcc
    · simp at hc
  · -- clear
    rename_i x tx hargs hts
    have hargs' : args = #[x] := by apply Array.ext'; simpa using hargs
    have hts' : ts = #[tx] := by apply Array.ext'; simpa using hts
    refine fin (s := Builtin.clear_ ts ty (args.map a.eval)) rfl ?_
    rw [hargs', hts']
    split at hc
    · rename_i e hu
      split at hc
      · rename_i z vx hz hvx
        split at hc
        · rename_i hpos
          simp only [Option.some.injEq] at hc; subst hc
          simp only [VOp.map, vop] at h
          have := clear_sound (P := P) (p := p) (ty := ty) hi hu hz hpos (cArg_rep hf hi hvx) h
          simpa using this
        · simp at hc
      · simp at hc
    · simp at hc
  · -- copy
    rename_i d x t1 t2 hargs hts
    have hargs' : args = #[d, x] := by apply Array.ext'; simpa using hargs
    have hts' : ts = #[t1, t2] := by apply Array.ext'; simpa using hts
    refine fin (s := Builtin.copy_ ts ty (args.map a.eval)) rfl ?_
    rw [hargs', hts']
    split at hc
    · rename_i e hu
      split at hc
      · rename_i i hie
        split at hc
        · rename_i hh
          obtain ⟨rfl, _⟩ := hh
          split at hc
          · rename_i vd vx hvd hvx
            simp only [Option.some.injEq] at hc; subst hc
            simp only [VOp.map, vop] at h
            have := copy_sound (P := P) (p := p) (ty := ty) hi hu hie (cArg_rep hf hi hvd) (cArg_rep hf hi hvx) h
            simpa using this
          · simp at hc
        · simp at hc
      · simp at hc
    · simp at hc
  · -- min
    rename_i x y hargs
    have hargs' : args = #[x, y] := by apply Array.ext'; simpa using hargs
    refine fin (s := Builtin.min_ ts ty (args.map a.eval)) rfl ?_
    rw [hargs']
    split at hc
    · rename_i vx vy hvx hvy
      simp only [Option.some.injEq] at hc; subst hc
      simp only [VOp.map, vop] at h
      have hrx := cArg_rep hf hi hvx
      have hry := cArg_rep hf hi hvy
      split at h
      · rename_i k n k' m hx hy
        rw [hx] at hrx; rw [hy] at hry
        simp only [Rep] at hrx hry
        refine Sound.of_noIds h fun cc hcc => ?_
        simp only [Option.some.injEq] at hcc; subst hcc
        refine Sound.same (v := .int k (if m < n then m else n)) hi ?_ (by simp only [Rep])
        simp [Builtin.min_, hrx, hry, Builtin.min2]
      · simp at h
    · simp at hc
  · -- max
    rename_i x y hargs
    have hargs' : args = #[x, y] := by apply Array.ext'; simpa using hargs
    refine fin (s := Builtin.max_ ts ty (args.map a.eval)) rfl ?_
    rw [hargs']
    split at hc
    · rename_i vx vy hvx hvy
      simp only [Option.some.injEq] at hc; subst hc
      simp only [VOp.map, vop] at h
      have hrx := cArg_rep hf hi hvx
      have hry := cArg_rep hf hi hvy
      split at h
      · rename_i k n k' m hx hy
        rw [hx] at hrx; rw [hy] at hry
        simp only [Rep] at hrx hry
        refine Sound.of_noIds h fun cc hcc => ?_
        simp only [Option.some.injEq] at hcc; subst hcc
        refine Sound.same (v := .int k (if m > n then m else n)) hi ?_ (by simp only [Rep])
        simp [Builtin.max_, hrx, hry, Builtin.max2]
      · simp at h
    · simp at hc
  · simp at hc

theorem op_sound0 (hi : Inv G own E w σ) (hμ : E.μ p = none) (hσ : σ p = none) {t : List AV} {a : Act} (hf : FrameRep E w t a) {o : Oper} {vo : VOp VArg} (hc : cOp0 P o.op = some vo) {r : Res}
    (h : vop σ p (vo.map (VArg.ev G t)) = some r) : OpDone P G own E w σ p r (execOp a.eval o) := by
  unfold execOp
  cases ho : o.op <;> rw [ho] at hc <;> simp only [] 
  case move x =>
    simp only [cOp0, Option.map_eq_some_iff] at hc; obtain ⟨va, hva, rfl⟩ := hc
    simp only [VOp.map, vop, noIds, Option.map_some, Option.some.injEq] at h; subst h
    exact ⟨a.eval x, w, E, .inl rfl, Adv.refl own E w, hi, cArg_rep hf hi hva, fun _ _ => rfl⟩
  case assign x =>
    simp only [cOp0, Option.map_eq_some_iff] at hc; obtain ⟨va, hva, rfl⟩ := hc
    simp only [VOp.map, vop, noIds, Option.map_some, Option.some.injEq] at h; subst h
    exact ⟨a.eval x, w, E, .inl rfl, Adv.refl own E w, hi, cArg_rep hf hi hva, fun _ _ => rfl⟩
  case pick c x y =>
    simp only [cOp0] at hc
    cases hvc : cArg c with
    | none => simp [hvc] at hc
    | some vc =>
    cases hvx : cArg x with
    | none => simp [hvc, hvx] at hc
    | some vx =>
    cases hvy : cArg y with
    | none => simp [hvc, hvx, hvy] at hc
    | some vy =>
      simp only [hvc, hvx, hvy, Option.some.injEq] at hc; subst hc
      simp only [VOp.map, vop] at h
      have hrc := cArg_rep hf hi hvc
      have hrx := cArg_rep hf hi hvx
      have hry := cArg_rep hf hi hvy
      split at h
      · rename_i b hb
        rw [hb] at hrc
        simp only [Rep] at hrc
        simp only [noIds, Option.map_some, Option.some.injEq] at h; subst h
        refine ⟨if b then a.eval x else a.eval y, w, E, .inl (by simp [hrc, asBool]), Adv.refl own E w, hi, ?_, fun _ _ => rfl⟩
        cases b
        · exact hry
        · exact hrx
      · simp at h
  case alloc ty =>
    simp only [cOp0, Option.map_eq_some_iff] at hc; obtain ⟨z, hz, rfl⟩ := hc
    simp only [VOp.map, vop, VArg.ev] at h
    obtain ⟨it, zv, hit, hzv, hzc, hzs, hzo⟩ := zeroAV_spec hz
    split at h
    · simp only [Option.some.injEq] at h; subst h
      have := box_sound (P := P) (p := p) hi hμ hσ (constAV_rep hzc) hzo ty
      refine OpDone.of ?_
      obtain ⟨v, w', E', hr, hp⟩ := this
      refine ⟨v, w', E', ?_, hp⟩
      simp only [Instr.alloc, Sem.run_bind, zeroValue_run hit hzv, Result.andThen_ok]
      exact hr
    · rename_i hno; exact absurd hzo hno
  case box ty x =>
    simp only [cOp0, Option.map_eq_some_iff] at hc; obtain ⟨va, hva, rfl⟩ := hc
    simp only [VOp.map, vop] at h
    split at h
    · rename_i hone
      simp only [Option.some.injEq] at h; subst h
      exact OpDone.of (box_sound hi hμ hσ (cArg_rep hf hi hva) hone ty)
    · simp at h
  case build ty ps => exact OpDone.of (build_sound hi hf hc h)
  case buildSlice ty n ps => exact OpDone.of (buildSl_sound hi hμ hσ hf hc h)
  case load ty x =>
    simp only [cOp0] at hc
    cases ha : isAggT P ty with
    | none => simp [ha] at hc
    | some g =>
    cases hti : P.info? ty with
    | none => simp [ha, hti] at hc
    | some i =>
    cases hvx : cArg x with
    | none => simp [ha, hti, hvx] at hc
    | some vx =>
      simp only [ha, hti, hvx] at hc
      split at hc
      · simp only [Option.some.injEq] at hc; subst hc
        simp only [VOp.map, vop] at h
        exact OpDone.of (vload_sound hi ha hti (cArg_rep hf hi hvx) h)
      · simp at hc
  case store ty x y =>
    simp only [cOp0] at hc
    cases hti : P.info? ty with
    | none => simp [hti] at hc
    | some i =>
    cases hvx : cArg x with
    | none => simp [hti, hvx] at hc
    | some vx =>
    cases hvy : cArg y with
    | none => simp [hti, hvx, hvy] at hc
    | some vy =>
      simp only [hti, hvx, hvy, Option.some.injEq] at hc; subst hc
      simp only [VOp.map, vop] at h
      exact OpDone.ofU (vstore_sound hi hti (cArg_rep hf hi hvx) (cArg_rep hf hi hvy) h)
  case nilCheck x =>
    simp only [cOp0, Option.map_eq_some_iff] at hc; obtain ⟨va, hva, rfl⟩ := hc
    simp only [VOp.map, vop] at h
    have hr := cArg_rep hf hi hva
    split at h
    · rename_i id e q hx
      simp only [noIds, Option.map_some, Option.some.injEq] at h; subst h
      rw [hx] at hr ⊢
      have hr' := hr
      simp only [Rep] at hr
      obtain ⟨g, k, N, hm, he⟩ := hr
      exact ⟨a.eval x, w, E, .inl (by rw [he]; rfl), Adv.refl own E w, hi, hr', fun _ _ => rfl⟩
    · rename_i cs q hx
      simp only [noIds, Option.map_some, Option.some.injEq] at h; subst h
      rw [hx] at hr ⊢
      have hr' := hr
      simp only [Rep] at hr
      obtain ⟨b, q, he, _⟩ := hr
      exact ⟨a.eval x, w, E, .inl (by rw [he]; rfl), Adv.refl own E w, hi, hr', fun _ _ => rfl⟩
    · rename_i f l1 l2 hx
      simp only [noIds, Option.map_some, Option.some.injEq] at h; subst h
      rw [hx] at hr ⊢
      have hr' := hr
      simp only [Rep] at hr
      obtain ⟨xs, ys, he, _⟩ := hr
      exact ⟨a.eval x, w, E, .inl (by rw [he]; rfl), Adv.refl own E w, hi, hr', fun _ _ => rfl⟩
    · simp at h
  case binOp op ty x y ty' =>
    simp only [cOp0] at hc
    cases hsh : shOf P ty with
    | none => simp [hsh] at hc
    | some sh =>
    cases hvx : cArg x with
    | none => simp [hsh, hvx] at hc
    | some vx =>
    cases hvy : cArg y with
    | none => simp [hsh, hvx, hvy] at hc
    | some vy =>
      simp only [hsh, hvx, hvy, Option.some.injEq] at hc; subst hc
      simp only [VOp.map, vop] at h
      refine OpDone.of (Sound.of_noIds h fun c hcc => ?_)
      obtain ⟨h1, h2, h3, h4⟩ := vbin_run (P := P) hsh hcc (cArg_rep hf hi hvx) (cArg_rep hf hi hvy)
      refine Sound.same hi ?_ (rep_plain h2)
      simp only [Sem.run_bind, eqGuard_none op ty x y _ _ h3 h4, Result.andThen_ok]
      exact h1
  case unOp op ty x =>
    simp only [cOp0, Option.map_eq_some_iff] at hc; obtain ⟨va, hva, rfl⟩ := hc
    simp only [VOp.map, vop] at h
    refine OpDone.of (Sound.of_noIds h fun c hcc => ?_)
    obtain ⟨h1, h2⟩ := vun_run (P := P) hcc (cArg_rep hf hi hva)
    exact Sound.same hi h1 (rep_plain h2)
  case convert src dst x =>
    simp only [cOp0] at hc
    split at hc
    · rename_i k1 k2 h1 h2
      simp only [Option.map_eq_some_iff] at hc; obtain ⟨va, hva, rfl⟩ := hc
      simp only [VOp.map, vop] at h
      have hr := cArg_rep hf hi hva
      split at h
      · rename_i k n hx
        rw [hx] at hr
        simp only [Rep] at hr
        simp only [noIds, Option.map_some, Option.some.injEq] at h; subst h
        refine OpDone.of (Sound.same (v := .int k2 (k2.wrap n)) hi ?_ (by simp [Rep]))
        rw [hr]
        simp [convert, run_underlying h1, run_underlying h2, Conv.intToInt]
      · simp at h
    · rename_i h1 h2
      simp only [Option.map_eq_some_iff] at hc; obtain ⟨va, hva, rfl⟩ := hc
      simp only [VOp.map, vop] at h
      have hr := cArg_rep hf hi hva
      split at h
      · rename_i l hx
        rw [hx] at hr h
        have hr' := hr
        simp only [Rep] at hr
        simp only [noIds, Option.map_some, Option.some.injEq] at h; subst h
        refine OpDone.of (Sound.same hi ?_ hr')
        rw [hr]
        simp [convert, run_underlying h1, run_underlying h2]
      · simp at h
    · simp at hc
  case makeFunc fn first cap =>
    simp only [cOp0] at hc
    cases h1 : cArgs first with
    | none => simp [h1] at hc
    | some va =>
    cases h2 : cArgs cap with
    | none => simp [h1, h2] at hc
    | some vc =>
      simp only [h1, h2, Option.some.injEq] at hc; subst hc
      simp only [VOp.map, vop, noIds, Option.map_some, Option.some.injEq] at h; subst h
      refine OpDone.of (Sound.same (v := .func fn (first.map a.eval) (cap.map a.eval)) hi (by simp [Instr.makeFunc]) ?_)
      simp only [Rep]
      exact ⟨_, _, rfl, cArgs_rep hf hi h1, cArgs_rep hf hi h2⟩
  case makeSlice ty l c =>
    simp only [cOp0] at hc
    cases hu : P.underlying ty with
    | none => simp [hu] at hc
    | some d =>
    cases d <;> simp only [hu, reduceCtorEq] at hc
    rename_i e
    cases hie : P.info? e with
    | none => simp [hie] at hc
    | some i =>
    cases hz : zeroAV P e with
    | none => simp [hie, hz] at hc
    | some z =>
    cases hvl : cArg l with
    | none => simp [hie, hz, hvl] at hc
    | some vl =>
    cases hvc : cArg c with
    | none => simp [hie, hz, hvl, hvc] at hc
    | some vc =>
      simp only [hie, hz, hvl, hvc] at hc
      split at hc
      · rename_i hh
        simp only [Option.some.injEq] at hc; subst hc
        simp only [VOp.map, vop] at h
        exact OpDone.of (mksl_sound hi hμ hσ hu hie hz hh.1 (cArg_rep hf hi hvl) (cArg_rep hf hi hvc) h)
      · simp at hc
  case slice ty x lo hi' mx =>
    simp only [cOp0] at hc
    cases hu : P.underlying ty with
    | none => simp [hu] at hc
    | some d =>
    cases d <;> simp only [hu, reduceCtorEq] at hc
    case string =>
      cases hvx : cArg x with
      | none => simp [hvx] at hc
      | some vx =>
      cases hvl : cOpt lo with
      | none => simp [hvx, hvl] at hc
      | some vl =>
      cases hvh : cOpt hi' with
      | none => simp [hvx, hvl, hvh] at hc
      | some vh =>
      cases mx with
      | some _ => simp [hvx, hvl, hvh] at hc
      | none =>
        simp only [hvx, hvl, hvh, Option.some.injEq] at hc; subst hc
        simp only [VOp.map, vop] at h
        refine OpDone.of (Sound.of_noIds h fun c hcc => ?_)
        exact vsliceS_sound hi hu (cArg_rep hf hi hvx) (cOpt_rep hf hi hvl) (cOpt_rep hf hi hvh) hcc
    case slice e =>
      cases hie : P.info? e with
      | none => simp [hie] at hc
      | some i =>
      cases hvx : cArg x with
      | none => simp [hie, hvx] at hc
      | some vx =>
      cases hvl : cOpt lo with
      | none => simp [hie, hvx, hvl] at hc
      | some vl =>
      cases hvh : cOpt hi' with
      | none => simp [hie, hvx, hvl, hvh] at hc
      | some vh =>
      cases hvm : cOpt mx with
      | none => simp [hie, hvx, hvl, hvh, hvm] at hc
      | some vm =>
        simp only [hie, hvx, hvl, hvh, hvm] at hc
        split at hc
        · rename_i hh
          simp only [Option.some.injEq] at hc; subst hc
          simp only [VOp.map, vop] at h
          refine OpDone.of (Sound.of_noIds h fun c hcc => ?_)
          exact vslice_sound hi hu hie (cArg_rep hf hi hvx) (cOpt_rep hf hi hvl) (cOpt_rep hf hi hvh) (cOpt_rep hf hi hvm) (by simpa using hh) hcc
        · simp at hc
  case fieldAddr s x f =>
    simp only [cOp0] at hc
    cases hu : P.underlying s with
    | none => simp [hu] at hc
    | some d =>
    cases d <;> simp only [hu, reduceCtorEq] at hc
    rename_i fs
    cases hfd : fs[f]? with
    | none => simp [hfd] at hc
    | some fd =>
    simp only [hfd] at hc
    cases hie : P.info? fd.type with
    | none => simp [hie] at hc
    | some i =>
    cases hvx : cArg x with
    | none => simp [hie, hvx] at hc
    | some vx =>
      simp only [hie, hvx] at hc
      split at hc
      · simp at hc
      · rename_i h0
        simp only [Option.some.injEq] at hc; subst hc
        exact OpDone.of (faddr_sound hi hu hfd hie h0 (cArg_rep hf hi hvx) h)
  case field s x f =>
    simp only [cOp0] at hc
    cases hu : P.underlying s with
    | none => simp [hu] at hc
    | some d =>
    cases d <;> simp only [hu, reduceCtorEq] at hc
    rename_i fs
    cases hfd : fs[f]? with
    | none => simp [hfd] at hc
    | some fd =>
    simp only [hfd] at hc
    cases hag : isAggT P fd.type with
    | none => simp [hag] at hc
    | some g =>
    cases hie : P.info? fd.type with
    | none => simp [hag, hie] at hc
    | some i =>
    cases hvx : cArg x with
    | none => simp [hag, hie, hvx] at hc
    | some vx =>
      simp only [hag, hie, hvx, Option.some.injEq] at hc; subst hc
      simp only [VOp.map, vop] at h
      have hr := cArg_rep hf hi hvx
      split at h
      · rename_i cs hx
        rw [hx] at hr
        simp only [Rep] at hr
        obtain ⟨xs, he, hr⟩ := hr
        refine OpDone.of (Sound.of_noIds h fun c hcc => ?_)
        obtain ⟨v, hv, hrv⟩ := part_run (P := P) hag hie hr hcc
        refine Sound.same hi ?_ hrv
        rw [he]
        simp [Instr.field, run_underlying hu, hfd, asAgg, hv]
      · simp at h
  case indexAddr ty x ix =>
    simp only [cOp0] at hc
    cases hu : P.underlying ty with
    | none => simp [hu] at hc
    | some d =>
    cases d <;> simp only [hu, reduceCtorEq] at hc
    case slice e =>
      cases hie : P.info? e with
      | none => simp [hie] at hc
      | some i =>
      cases hvx : cArg x with
      | none => simp [hie, hvx] at hc
      | some vx =>
      cases hvi : cArg ix with
      | none => simp [hie, hvx, hvi] at hc
      | some vi =>
        simp only [hie, hvx, hvi, Option.some.injEq] at hc; subst hc
        simp only [VOp.map, vop] at h
        refine OpDone.of (Sound.of_noIds h fun c hcc => ?_)
        exact iaddrS_sound hi hu hie (cArg_rep hf hi hvx) (cArg_rep hf hi hvi) hcc
    case array n e =>
      cases hie : P.info? e with
      | none => simp [hie] at hc
      | some i =>
      cases hvx : cArg x with
      | none => simp [hie, hvx] at hc
      | some vx =>
      cases hvi : cArg ix with
      | none => simp [hie, hvx, hvi] at hc
      | some vi =>
        simp only [hie, hvx, hvi, Option.some.injEq] at hc; subst hc
        simp only [VOp.map, vop] at h
        refine OpDone.of (Sound.of_noIds h fun c hcc => ?_)
        exact iaddrA_sound hi hu hie (cArg_rep hf hi hvx) (cArg_rep hf hi hvi) hcc
  case index ty x ix =>
    simp only [cOp0] at hc
    cases hu : P.underlying ty with
    | none => simp [hu] at hc
    | some d =>
    cases d <;> simp only [hu, reduceCtorEq] at hc
    case string =>
      cases hvx : cArg x with
      | none => simp [hvx] at hc
      | some vx =>
      cases hvi : cArg ix with
      | none => simp [hvx, hvi] at hc
      | some vi =>
        simp only [hvx, hvi, Option.some.injEq] at hc; subst hc
        simp only [VOp.map, vop] at h
        have hr := cArg_rep hf hi hvx
        have hri := cArg_rep hf hi hvi
        split at h
        · rename_i s k n hx hn
          rw [hx] at hr; rw [hn] at hri
          simp only [Rep] at hr hri
          split at h
          · rename_i h0
            refine OpDone.of (Sound.of_noIds h fun c hcc => ?_)
            simp only [Option.map_eq_some_iff] at hcc
            obtain ⟨b, hb, rfl⟩ := hcc
            refine Sound.same (v := .int .u8 b.toNat) hi ?_ (by simp [Rep])
            rw [hr, hri]
            have hb' : (ByteArray.mk s.toArray)[n.toNat]? = some b := by
              have hlt := (List.getElem?_eq_some_iff.1 hb)
              obtain ⟨h1, h2⟩ := hlt
              rw [getElem?_pos (ByteArray.mk s.toArray) n.toNat (by simpa [ByteArray.size] using h1)]
              congr 1
            simp [Instr.index, run_underlying hu, asIntOf, h0, hb']
          · simp at h
        · simp at h
    case array n e =>
      cases hag : isAggT P e with
      | none => simp [hag] at hc
      | some g =>
      cases hie : P.info? e with
      | none => simp [hag, hie] at hc
      | some i =>
      cases hvx : cArg x with
      | none => simp [hag, hie, hvx] at hc
      | some vx =>
      cases hvi : cArg ix with
      | none => simp [hag, hie, hvx, hvi] at hc
      | some vi =>
        simp only [hag, hie, hvx, hvi, Option.some.injEq] at hc; subst hc
        simp only [VOp.map, vop] at h
        have hr := cArg_rep hf hi hvx
        have hri := cArg_rep hf hi hvi
        split at h
        · rename_i cs k m hx hn
          rw [hx] at hr; rw [hn] at hri
          simp only [Rep] at hr hri
          obtain ⟨xs, he, hr⟩ := hr
          split at h
          · rename_i h0
            refine OpDone.of (Sound.of_noIds h fun c hcc => ?_)
            obtain ⟨v, hv, hrv⟩ := part_run (P := P) hag hie hr hcc
            refine Sound.same hi ?_ hrv
            rw [he, hri]
            simp [Instr.index, run_underlying hu, asIntOf, h0, sizeOf_run hie, hv]
          · simp at h
        · simp at h
  case extract x i =>
    simp only [cOp0, Option.map_eq_some_iff] at hc; obtain ⟨va, hva, rfl⟩ := hc
    simp only [VOp.map, vop] at h
    have hr := cArg_rep hf hi hva
    split at h
    · rename_i vs hx
      rw [hx] at hr
      simp only [Rep] at hr
      obtain ⟨xs, he, hr⟩ := hr
      refine OpDone.of (Sound.of_noIds h fun c hcc => ?_)
      obtain ⟨v, hv, hrv⟩ := (repL_iff.1 hr).2 i c hcc
      refine Sound.same hi ?_ hrv
      rw [he]
      simp at hv
      simp [Instr.extract, hv]
    · simp at h
  case call c =>
    simp only [cOp0] at hc
    cases hcal : c.callee with
    | value f =>
      simp only [hcal] at hc
      split at hc
      · simp only [Option.some.injEq] at hc; subst hc
        simp [VOp.map, vop] at h
      · simp at hc
    | invoke _ _ => simp [hcal] at hc
    | builtin b =>
      simp only [hcal] at hc
      have hres : ∀ w, (do let d ← resolve a.eval c o.type; invoke d.target d.args : Sem Next).run P w =
          (builtin b c.argTypes o.type (c.args.map fun | .const _ => true | _ => false) (c.args.map a.eval)).run P w := by
        intro w; simp [resolve, hcal, invoke]; rfl
      have fin : ∀ {s : Sem Value}, builtin b c.argTypes o.type (c.args.map fun | .const _ => true | _ => false) (c.args.map a.eval) = (do pure (.value (← s))) → Sound P G own E w σ p s r →
          OpDone P G own E w σ p r (do let d ← resolve a.eval c o.type; invoke d.target d.args) := by
        intro s he hs
        obtain ⟨v, w', E', hr, hp⟩ := hs
        exact ⟨v, w', E', .inl (by rw [hres, he]; simp [hr]), hp⟩
      exact builtin_sound hi hμ hσ hf hc h fin
  all_goals simp [cOp0] at hc

theorem op_sound (hi : Inv G own E w σ) (hμ : E.μ p = none) (hσ : σ p = none) {t : List AV} {a : Act} (hf : FrameRep E w t a) {o : Oper} {vo : VOp VArg} (hc : cOp P o.op = some vo) {r : Res}
    (h : vop σ p (vo.map (VArg.ev G t)) = some r) : OpDone P G own E w σ p r (execOp a.eval o) := by
  unfold cOp at hc
  split at hc
  · rename_i v hv
    simp only [Option.some.injEq] at hc; subst hc
    exact op_sound0 hi hμ hσ hf hv h
  · simp only [Option.some.injEq] at hc; subst hc
    simp [VOp.map, vop] at h

end

end Go.VL
