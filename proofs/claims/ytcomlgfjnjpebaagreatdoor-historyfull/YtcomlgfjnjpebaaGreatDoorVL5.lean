/- The V-layer, part 5: each operation of the model does what its tree says. -/
import Derived.Test.YtcomlgfjnjpebaaGreatDoorVL4
import Derived.Laws.OwnMore
import Derived.WideLaws
import Derived.StringKeys
import Derived.Laws.Closers25
namespace Go.VL

structure OpPost (G : Nat → Option (List AV)) (own : Nat → Prop) (E : Env) (w : World) (σ : Store) (p : Id) (r : Res) (v : Value) (E' : Env) (w' : World) : Prop where
  adv : Adv own E E' w w'
  inv : Inv G own E' w' (σ.app r.up)
  rep : Rep E' w' r.val v
  ids : ∀ i : Id, ¬ p <:+ i → E'.μ i = E.μ i

def Sound (P : Program) (G : Nat → Option (List AV)) (own : Nat → Prop) (E : Env) (w : World) (σ : Store) (p : Id) (s : Sem Value) (r : Res) : Prop :=
  ∃ v w' E', s.run P w = .ok v w' ∧ OpPost G own E w σ p r v E' w'

section
variable {P : Program} {G : Nat → Option (List AV)} {own : Nat → Prop} {E : Env} {w : World} {σ : Store} {p : Id}

theorem Sound.same {s : Sem Value} {c : AV} {v : Value} {rd : List Id} (h : Inv G own E w σ) (hr : s.run P w = .ok v w) (hv : Rep E w c v) : Sound P G own E w σ p s { val := c, rd := rd } :=
  ⟨v, w, E, hr, Adv.refl own E w, h, hv, fun _ _ => rfl⟩

theorem Sound.of_noIds {s : Sem Value} {oc : Option AV} {r : Res} (h : noIds oc = some r) (k : ∀ c, oc = some c → Sound P G own E w σ p s { val := c }) : Sound P G own E w σ p s r := by
  cases oc with
  | none => simp [noIds] at h
  | some c => simp only [noIds, Option.map_some, Option.some.injEq] at h; subst h; exact k c rfl

/-! ### Constants -/

theorem mapM_some_len {α β : Type} {f : α → Option β} : ∀ {l : List α} {r : List β}, l.mapM f = some r → r.length = l.length
  | [], r, h => by simp at h; simp [← h]
  | a :: l, r, h => by
    simp only [List.mapM_cons, Option.pure_def, Option.bind_eq_bind, Option.bind_eq_some_iff] at h
    obtain ⟨b, _, r', h2, h3⟩ := h
    simp only [Option.some.injEq] at h3
    subst h3
    simp [mapM_some_len h2]

theorem mapM_some_get {α β : Type} {f : α → Option β} : ∀ {l : List α} {r : List β}, l.mapM f = some r → ∀ (i : Nat) (b : β), r[i]? = some b → ∃ a, l[i]? = some a ∧ f a = some b
  | [], r, h, i, b, hb => by simp at h; subst h; simp at hb
  | a :: l, r, h, i, b, hb => by
    simp only [List.mapM_cons, Option.pure_def, Option.bind_eq_bind, Option.bind_eq_some_iff] at h
    obtain ⟨c, h1, r', h2, h3⟩ := h
    simp only [Option.some.injEq] at h3
    subst h3
    cases i with
    | zero => simp at hb; subst hb; exact ⟨a, rfl, h1⟩
    | succ i => simpa using mapM_some_get h2 i b (by simpa using hb)

theorem mapM_repL {β : Type} {f : β → Option AV} {val : β → Value} (h : ∀ x c, f x = some c → Rep E w c (val x)) {l : List β} {r : List AV} (hm : l.mapM f = some r) : RepL E w r (l.map val) := by
  refine repL_iff.2 ⟨by simp [mapM_some_len hm], fun j c hj => ?_⟩
  obtain ⟨a, h1, h2⟩ := mapM_some_get hm j c hj
  exact ⟨val a, by simp [h1], h a c h2⟩

theorem constAV_rep : ∀ {n : Nat} {v : Value} {c : AV}, constAV n v = some c → Rep E w c v
  | 0, _, _, h => by simp [constAV] at h
  | n + 1, v, c, h => by
    have ih : ∀ x c, constAV n x = some c → Rep E w c x := fun x c h => constAV_rep h
    have hl : ∀ {cs : List Value} {r : List AV}, cs.mapM (constAV n) = some r → RepL E w r cs := by
      intro cs r hm
      simpa using mapM_repL (val := id) ih hm
    unfold constAV at h
    split at h
    · simp only [Option.some.injEq] at h; subst h; simp [Rep]
    · simp only [Option.some.injEq] at h; subst h; simp [Rep]
    · simp only [Option.some.injEq] at h; subst h; simp [Rep]
    · simp only [Option.some.injEq] at h; subst h; simp [Rep]
    · simp only [Option.some.injEq] at h; subst h; simp [Rep]
    · simp only [Option.some.injEq] at h; subst h; simp [Rep]
    · rename_i cs
      cases hm : cs.toList.mapM (constAV n) with
      | none => simp [hm] at h
      | some r => simp only [hm, Option.map_some, Option.some.injEq] at h; subst h; simp only [Rep]; exact ⟨cs, rfl, hl hm⟩
    · rename_i cs
      cases hm : cs.toList.mapM (constAV n) with
      | none => simp [hm] at h
      | some r => simp only [hm, Option.map_some, Option.some.injEq] at h; subst h; simp only [Rep]; exact ⟨cs, rfl, hl hm⟩
    · simp at h

/-! ### The frame -/

def FrameRep (E : Env) (w : World) (t : List AV) (a : Act) : Prop := RepL E w t a.tmps.toList

theorem FrameRep.get {t : List AV} {a : Act} (h : FrameRep E w t a) (n : Nat) : Rep E w (t.getD n (.tup [])) (a.tmps.getD n undef) := by
  obtain ⟨hl, hp⟩ := repL_iff.1 h
  by_cases hn : n < t.length
  · obtain ⟨v, hv, hr⟩ := hp n t[n] (by simp [hn])
    have : a.tmps.getD n undef = v := by
      rw [Array.getD_eq_getD_getElem?]; simp at hv; simp [hv]
    rw [this]
    simpa [List.getD, hn] using hr
  · have h1 : t.getD n (.tup []) = .tup [] := by simp [List.getD, Nat.le_of_not_lt hn]
    have h2 : a.tmps.getD n undef = undef := by
      rw [Array.getD_eq_getD_getElem?]
      have : a.tmps.size ≤ n := by have := hl; simp at this; omega
      simp [this]
    rw [h1, h2]
    simp only [Rep, undef]
    exact ⟨#[], rfl, by simp [RepL]⟩

theorem cArg_rep {t : List AV} {a : Act} (hf : FrameRep E w t a) (hi : Inv G own E w σ) {x : Operand} {va : VArg} (h : cArg x = some va) : Rep E w (va.ev G t) (a.eval x) := by
  cases x with
  | tmp n => simp only [cArg, Option.some.injEq] at h; subst h; exact hf.get n
  | const v =>
    simp only [cArg] at h
    cases hc : constAV 3 v with
    | none => simp [hc] at h
    | some c => simp only [hc, Option.map_some, Option.some.injEq] at h; subst h; exact constAV_rep hc
  | global g =>
    simp only [cArg, Option.some.injEq] at h; subst h
    simp only [VArg.ev, Act.eval]
    cases hg : G g with
    | none => simp [Rep]
    | some cs =>
      obtain ⟨h1, h2⟩ := hi.glob g cs hg
      simp only [Rep]
      exact ⟨g, 0, rfl, h1, RepCells.keep (Step.unbare E w) rfl cs 0 h2⟩
  | func f =>
    simp only [cArg, Option.some.injEq] at h; subst h
    simp only [VArg.ev, Act.eval, Rep]
    exact ⟨#[], #[], rfl, by simp [RepL], by simp [RepL]⟩

theorem cArgs_rep {t : List AV} {a : Act} (hf : FrameRep E w t a) (hi : Inv G own E w σ) {xs : Array Operand} {vs : List VArg} (h : cArgs xs = some vs) :
    RepL E w (vs.map (VArg.ev G t)) (xs.map a.eval).toList := by
  unfold cArgs at h
  refine repL_iff.2 ⟨by simp [mapM_some_len h], fun j c hj => ?_⟩
  simp only [List.getElem?_map, Option.map_eq_some_iff] at hj
  obtain ⟨va, hva, rfl⟩ := hj
  obtain ⟨x, h1, h2⟩ := mapM_some_get h j va hva
  refine ⟨a.eval x, ?_, cArg_rep hf hi h2⟩
  simp at h1
  simp [h1]

/-! ### Operations that only compute -/

theorem isAggT_run {t : TypeId} {b : Bool} (h : isAggT P t = some b) (w : World) : (isAgg t).run P w = .ok b w := by
  unfold isAggT at h
  cases hu : P.underlying t with
  | none => simp [hu] at h
  | some d => cases d <;> simp [hu] at h <;> subst h <;> simp [isAgg, run_underlying hu]

theorem sizeOf_run {t : TypeId} {i : TypeInfo} (h : P.info? t = some i) (w : World) : (sizeOf t).run P w = .ok i.size w := by simp [sizeOf, typeInfo, h]

theorem zeroAV_spec {t : TypeId} {z : AV} (h : zeroAV P t = some z) : ∃ i v, P.info? t = some i ∧ i.zero = some v ∧ constAV 3 v = some z ∧ z.size = i.size ∧ z.cells.all AV.one = true := by
  unfold zeroAV at h
  cases hi : P.info? t with
  | none => simp [hi] at h
  | some i =>
    simp only [hi] at h
    cases hz : i.zero with
    | none => simp [hz] at h
    | some v =>
      simp only [hz] at h
      cases hc : constAV 3 v with
      | none => simp [hc] at h
      | some a =>
        simp only [hc] at h
        split at h
        · rename_i hh
          simp only [Option.some.injEq] at h; subst h
          exact ⟨i, v, rfl, hz, hc, hh.1, hh.2⟩
        · simp at h

theorem zeroValue_run {t : TypeId} {i : TypeInfo} {v : Value} (h : P.info? t = some i) (hz : i.zero = some v) (w : World) : (zeroValue t).run P w = .ok v w := by
  simp [zeroValue, typeInfo, h, hz]

theorem one_or_agg {c : AV} (h : c.cells.all AV.one = true) : c.one = true ∨ ∃ cs, c = .agg cs := by
  cases c <;> simp [AV.cells, AV.one] at h ⊢

/-- Cells n from o on. -/
theorem part_rep {agg : Bool} {cs : List AV} {o n : Nat} {c : AV} (h : part agg cs o n = some c) {xs : Array Value} (hr : RepL E w cs xs.toList) :
    Rep E w c (if agg then .agg (xs.extract o (o + n)) else xs.getD o undef) ∧ o + n ≤ xs.size ∧ (agg = false → n = 1) := by
  obtain ⟨hl, hp⟩ := repL_iff.1 hr
  unfold part at h
  split at h
  · rename_i hle
    refine ⟨?_, by simp at hl; omega, ?_⟩
    · cases agg with
      | true =>
        simp only [if_true, Option.some.injEq] at h ⊢
        subst h
        simp only [Rep]
        refine ⟨_, rfl, repL_iff.2 ⟨by simp at hl ⊢; omega, fun j d hj => ?_⟩⟩
        rw [List.getElem?_take] at hj
        split at hj
        · rename_i hjn
          rw [List.getElem?_drop] at hj
          obtain ⟨v, hv, hvr⟩ := hp _ _ hj
          refine ⟨v, ?_, hvr⟩
          simp at hv
          have : o + j < xs.size := (Array.getElem?_eq_some_iff.1 hv).1
          simp only [Array.toList_extract, List.extract_eq_take_drop, Nat.add_sub_cancel_left]
          rw [List.getElem?_take_of_lt hjn, List.getElem?_drop]
          simpa using hv
        · simp at hj
      | false =>
        simp only [Bool.false_eq_true, if_false] at h ⊢
        split at h
        · obtain ⟨v, hv, hvr⟩ := hp _ _ h
          rw [Array.getD_eq_getD_getElem?]
          simp at hv
          simpa [hv] using hvr
        · simp at h
    · intro ha; subst ha
      simp only [Bool.false_eq_true, if_false] at h
      split at h
      · assumption
      · simp at h
  · simp at h

/-- The value of a tree that is a bool, a number or a string. -/
def plainV : AV → Value
  | .bool b => .bool b
  | .int k n => .int k n
  | .str l => .string ⟨l.toArray⟩
  | _ => undef
def AV.plain : AV → Bool
  | .bool _ | .int _ _ | .str _ => true
  | _ => false
theorem rep_plain {c : AV} (h : c.plain = true) : Rep E w c (plainV c) := by cases c <;> simp [AV.plain] at h <;> simp [Rep, plainV]

theorem vint_run {op : BinOp} {k k' : IntKind} {a b : Int} {t : TypeId} {c : AV} (hk : op = .shl ∨ op = .shr ∨ k = k') (h : vint op k a b = some c) (w : World) :
    (binOp op t (.int k a) (.int k' b)).run P w = .ok (plainV c) w ∧ c.plain = true := by
  cases op <;> simp only [vint] at h
  case shl => split at h <;> simp only [Option.some.injEq, reduceCtorEq] at h; subst h; rename_i hb; exact ⟨by simp only [binOp_shl, Op.shift, hb, if_false]; rfl, rfl⟩
  case shr => split at h <;> simp only [Option.some.injEq, reduceCtorEq] at h; subst h; rename_i hb; exact ⟨by simp only [binOp_shr, Op.shift, hb, if_false]; rfl, rfl⟩
  all_goals obtain rfl := (by simpa using hk : k = k')
  case quo => split at h <;> simp only [Option.some.injEq, reduceCtorEq] at h; subst h; rename_i hb; exact ⟨by simp [binOp_quo, Op.intDiv, hb, plainV], rfl⟩
  case rem => split at h <;> simp only [Option.some.injEq, reduceCtorEq] at h; subst h; rename_i hb; exact ⟨by simp [binOp_rem, Op.intDiv, hb, plainV], rfl⟩
  case and => simp only [bitsOf, Option.map_some, Option.some.injEq] at h; subst h; exact ⟨by simp [binOp_and, Op.intBits, plainV], rfl⟩
  case or => simp only [bitsOf, Option.map_some, Option.some.injEq] at h; subst h; exact ⟨by simp [binOp_or, Op.intBits, plainV], rfl⟩
  case xor => simp only [bitsOf, Option.map_some, Option.some.injEq] at h; subst h; exact ⟨by simp [binOp_xor, Op.intBits, plainV], rfl⟩
  case andNot => simp only [bitsOf, Option.map_some, Option.some.injEq] at h; subst h; exact ⟨by simp [binOp_andNot, Op.intBits, plainV], rfl⟩
  all_goals (simp only [Option.some.injEq] at h; subst h; refine ⟨?_, rfl⟩)
  all_goals simp [binOp, Op.intArith, Op.intCmp, plainV]

theorem toList_bytes (l : List UInt8) : (ByteArray.mk l.toArray).toList = l := by
  rw [ByteArray.toList_eq]

theorem vstr_run {op : BinOp} {a b : List UInt8} {t : TypeId} {c : AV} (h : vstr op a b = some c) (w : World) :
    (binOp op t (.string ⟨a.toArray⟩) (.string ⟨b.toArray⟩)).run P w = .ok (plainV c) w ∧ c.plain = true := by
  cases op <;> simp only [vstr, reduceCtorEq] at h
  case add =>
    split at h
    · rename_i hle
      simp only [Option.some.injEq] at h; subst h
      refine ⟨?_, rfl⟩
      have h1 : ¬ (((ByteArray.mk a.toArray).size + (ByteArray.mk b.toArray).size : Nat) : Int) > IntKind.i64.max := by
        simp only [IntKind.max_i64, ByteArray.size, List.size_toArray]
        unfold maxLen at hle; omega
      simp only [binOp, Op.stringOp, h1, if_false, plainV, Sem.run_pure]
      congr 2
    · simp at h
  all_goals (simp only [Option.some.injEq] at h; subst h; refine ⟨?_, rfl⟩; simp [binOp, Op.stringOp, plainV])

end

end Go.VL
