/- The V-layer, part 6: each operation of the model does what its tree says (values, loads, stores, new blocks). -/
import Derived.Test.YtcomlgfjnjpebaaGreatDoorVL5
import Derived.LaidEql
namespace Go.VL

section
variable {P : Program} {G : Nat → Option (List AV)} {own : Nat → Prop} {E : Env} {w : World} {σ : Store} {p : Id}

theorem underlying_of_sh {t : TypeId} {sh : Sh} (h : shOf P t = some sh) :
    match sh with
    | .int => ∃ k, P.underlying t = some (.int k)
    | .str => P.underlying t = some .string
    | .bool => P.underlying t = some .bool
    | .ptr => ∃ e, P.underlying t = some (.pointer e)
    | .slice => ∃ e, P.underlying t = some (.slice e)
    | .func => ∃ a b c, P.underlying t = some (.func a b c) := by
  unfold shOf at h
  split at h <;> simp only [Option.some.injEq, reduceCtorEq] at h <;> subst h <;> simp_all

theorem eqGuard_none (op : BinOp) (t : TypeId) (x y : Operand) (a b : Value) (ha : a ≠ .nilIface) (hb : ∀ cs, a ≠ .agg cs) (w : World) : (eqGuard op t x y a b).run P w = .ok () w := by
  unfold eqGuard
  cases op <;> cases a <;> first | rfl | exact absurd rfl ha | exact absurd rfl (hb _)

section
variable {t : TypeId} (d : Nat)
theorem eqIn_bool (hu : P.underlying t = some .bool) (a b : Bool) : (Op.equalIn (d + 1) t (.bool a) (.bool b)).run P w = .ok (a == b) w := by simp [Op.equalIn, run_underlying hu]
theorem eqIn_ptr0 {e : TypeId} (hu : P.underlying t = some (.pointer e)) : (Op.equalIn (d + 1) t (.pointer none) (.pointer none)).run P w = .ok true w := by simp [Op.equalIn, run_underlying hu]
theorem eqIn_ptr1 {e : TypeId} (hu : P.underlying t = some (.pointer e)) (a : Addr) : (Op.equalIn (d + 1) t (.pointer none) (.pointer (some a))).run P w = .ok false w := by simp [Op.equalIn, run_underlying hu]
theorem eqIn_ptr2 {e : TypeId} (hu : P.underlying t = some (.pointer e)) (a : Addr) : (Op.equalIn (d + 1) t (.pointer (some a)) (.pointer none)).run P w = .ok false w := by simp [Op.equalIn, run_underlying hu]
theorem eqIn_sl0 {e : TypeId} (hu : P.underlying t = some (.slice e)) : (Op.equalIn (d + 1) t (.slice none 0 0) (.slice none 0 0)).run P w = .ok true w := by simp [Op.equalIn, run_underlying hu]
theorem eqIn_sl1 {e : TypeId} (hu : P.underlying t = some (.slice e)) (a : Addr) (n m : Nat) : (Op.equalIn (d + 1) t (.slice none 0 0) (.slice (some a) n m)).run P w = .ok false w := by simp [Op.equalIn, run_underlying hu]
theorem eqIn_sl2 {e : TypeId} (hu : P.underlying t = some (.slice e)) (a : Addr) (n m : Nat) : (Op.equalIn (d + 1) t (.slice (some a) n m) (.slice none 0 0)).run P w = .ok false w := by simp [Op.equalIn, run_underlying hu]
theorem eqIn_fn0 {e f : Array TypeId} {g : Bool} (hu : P.underlying t = some (.func e f g)) : (Op.equalIn (d + 1) t .nilFunc .nilFunc).run P w = .ok true w := by simp [Op.equalIn, run_underlying hu]
theorem eqIn_fn1 {e f : Array TypeId} {g : Bool} (hu : P.underlying t = some (.func e f g)) (x : Fn) (y z : Array Value) : (Op.equalIn (d + 1) t .nilFunc (.func x y z)).run P w = .ok false w := by simp [Op.equalIn, run_underlying hu]
theorem eqIn_fn2 {e f : Array TypeId} {g : Bool} (hu : P.underlying t = some (.func e f g)) (x : Fn) (y z : Array Value) : (Op.equalIn (d + 1) t (.func x y z) .nilFunc).run P w = .ok false w := by simp [Op.equalIn, run_underlying hu]
end

/-- Equality at a type whose comparison is settled by the values. -/
theorem bin_eq {op : BinOp} {t : TypeId} {a b : Value} {r : Bool} {c : AV} (hn : ∀ (k : IntKind) n, a ≠ .int k n) (hs : ∀ s, a ≠ .string s) (hf : ∀ k n, a ≠ .float k n) (hcx : ∀ k n m, a ≠ .complex k n m)
    (he' : (Op.equalIn (9999 + 1) t a b).run P w = .ok r w)
    (hc : (match op with | .eql => some (AV.bool r) | .neq => some (AV.bool !r) | _ => none) = some c) : (binOp op t a b).run P w = .ok (plainV c) w ∧ c.plain = true := by
  have he : (Op.equal t a b).run P w = .ok r w := he'
  clear he'
  cases op <;> simp only [reduceCtorEq] at hc
  all_goals
    simp only [Option.some.injEq] at hc; subst hc; refine ⟨?_, rfl⟩
    cases a <;> first
      | exact absurd rfl (hn _ _)
      | exact absurd rfl (hs _)
      | exact absurd rfl (hf _ _)
      | exact absurd rfl (hcx _ _ _)
      | simp [binOp, he, plainV]

theorem vbin_run {op : BinOp} {t : TypeId} {sh : Sh} (hsh : shOf P t = some sh) {x y c : AV} {a b : Value} (h : vbin op sh x y = some c) (hx : Rep E w x a) (hy : Rep E w y b) :
    (binOp op t a b).run P w = .ok (plainV c) w ∧ c.plain = true ∧ a ≠ .nilIface ∧ (∀ cs, a ≠ .agg cs) := by
  have hu := underlying_of_sh hsh
  unfold vbin at h
  split at h
  · simp only [Rep] at hx hy; subst hx; subst hy
    split at h
    · rename_i hk
      obtain ⟨h1, h2⟩ := vint_run (t := t) (P := P) (by simpa using hk) h w
      exact ⟨h1, h2, by simp, by simp⟩
    · simp at h
  · simp only [Rep] at hx hy; subst hx; subst hy
    obtain ⟨h1, h2⟩ := vstr_run (t := t) (P := P) h w
    exact ⟨h1, h2, by simp, by simp⟩
  · simp only [Rep] at hx hy; subst hx; subst hy
    rename_i a b
    refine and_assoc.1 ⟨?_, by simp, by simp⟩
    exact bin_eq (r := a == b) (by simp) (by simp) (by simp) (by simp) (eqIn_bool _ hu _ _) h
  · obtain ⟨e, hu⟩ := hu
    simp only [Rep] at hx hy; subst hx; subst hy
    refine and_assoc.1 ⟨?_, by simp, by simp⟩
    exact bin_eq (r := true) (by simp) (by simp) (by simp) (by simp) (eqIn_ptr0 _ hu) h
  · obtain ⟨e, hu⟩ := hu
    simp only [Rep] at hx hy; subst hy; obtain ⟨_, _, _, _, rfl⟩ := hx
    refine and_assoc.1 ⟨?_, by simp, by simp⟩
    exact bin_eq (r := false) (by simp) (by simp) (by simp) (by simp) (eqIn_ptr2 _ hu _) h
  · obtain ⟨e, hu⟩ := hu
    simp only [Rep] at hx hy; subst hx; obtain ⟨_, _, _, _, rfl⟩ := hy
    refine and_assoc.1 ⟨?_, by simp, by simp⟩
    exact bin_eq (r := false) (by simp) (by simp) (by simp) (by simp) (eqIn_ptr1 _ hu _) h
  · obtain ⟨e, hu⟩ := hu
    simp only [Rep] at hx hy; subst hy; obtain ⟨_, _, rfl, _⟩ := hx
    refine and_assoc.1 ⟨?_, by simp, by simp⟩
    exact bin_eq (r := false) (by simp) (by simp) (by simp) (by simp) (eqIn_ptr2 _ hu _) h
  · obtain ⟨e, hu⟩ := hu
    simp only [Rep] at hx hy; subst hx; obtain ⟨_, _, rfl, _⟩ := hy
    refine and_assoc.1 ⟨?_, by simp, by simp⟩
    exact bin_eq (r := false) (by simp) (by simp) (by simp) (by simp) (eqIn_ptr1 _ hu _) h
  · obtain ⟨e, hu⟩ := hu
    simp only [Rep] at hx hy; subst hx; subst hy
    refine and_assoc.1 ⟨?_, by simp, by simp⟩
    exact bin_eq (r := true) (by simp) (by simp) (by simp) (by simp) (eqIn_sl0 _ hu) h
  · obtain ⟨e, hu⟩ := hu
    simp only [Rep] at hx hy; subst hy; obtain ⟨_, _, _, _, rfl, _⟩ := hx
    refine and_assoc.1 ⟨?_, by simp, by simp⟩
    exact bin_eq (r := false) (by simp) (by simp) (by simp) (by simp) (eqIn_sl2 _ hu _ _ _) h
  · obtain ⟨e, hu⟩ := hu
    simp only [Rep] at hx hy; subst hx; obtain ⟨_, _, _, _, rfl, _⟩ := hy
    refine and_assoc.1 ⟨?_, by simp, by simp⟩
    exact bin_eq (r := false) (by simp) (by simp) (by simp) (by simp) (eqIn_sl1 _ hu _ _ _) h
  · obtain ⟨e, hu⟩ := hu
    simp only [Rep] at hx hy; subst hy; obtain ⟨a, cap, rfl, _, _, _, hx⟩ := hx
    simp only [reduceCtorEq, false_or] at hx
    obtain ⟨b, o, rfl, _⟩ := hx
    refine and_assoc.1 ⟨?_, by simp, by simp⟩
    exact bin_eq (r := false) (by simp) (by simp) (by simp) (by simp) (eqIn_sl2 _ hu _ _ _) h
  · obtain ⟨e, hu⟩ := hu
    simp only [Rep] at hx hy; subst hy; obtain ⟨a, rfl, _, _, hx⟩ := hx
    simp only [reduceCtorEq, false_or] at hx
    obtain ⟨b, o, rfl, _⟩ := hx
    refine and_assoc.1 ⟨?_, by simp, by simp⟩
    exact bin_eq (r := false) (by simp) (by simp) (by simp) (by simp) (eqIn_sl2 _ hu _ _ _) h
  · obtain ⟨e, f, g, hu⟩ := hu
    simp only [Rep] at hx hy; subst hx; subst hy
    refine and_assoc.1 ⟨?_, by simp, by simp⟩
    exact bin_eq (r := true) (by simp) (by simp) (by simp) (by simp) (eqIn_fn0 _ hu) h
  · obtain ⟨e, f, g, hu⟩ := hu
    simp only [Rep] at hx hy; subst hy; obtain ⟨_, _, rfl, _⟩ := hx
    refine and_assoc.1 ⟨?_, by simp, by simp⟩
    exact bin_eq (r := false) (by simp) (by simp) (by simp) (by simp) (eqIn_fn2 _ hu _ _ _) h
  · obtain ⟨e, f, g, hu⟩ := hu
    simp only [Rep] at hx hy; subst hx; obtain ⟨_, _, rfl, _⟩ := hy
    refine and_assoc.1 ⟨?_, by simp, by simp⟩
    exact bin_eq (r := false) (by simp) (by simp) (by simp) (by simp) (eqIn_fn1 _ hu _ _ _) h
  · simp at h

theorem eqIn_slx {P : Program} {w : World} {t e : TypeId} {d : Nat} (hu : P.underlying t = some (.slice e)) (a : Option Addr) (n m : Nat) : (Op.equalIn (d + 1) t (.slice a n m) (.slice none 0 0)).run P w = .ok a.isNone w := by cases a <;> simp [Op.equalIn, run_underlying hu]

theorem vnilq_run {op : BinOp} {t : TypeId} {sh : Sh} (hsh : shOf P t = some sh) {x y c : AV} {a b : Value} (h : vnilq op sh x y = some c) (hx : Rep E w x a) (hy : Rep E w y b) :
    (∃ r, Rep E w c (.bool r) ∧ (binOp op t a b).run P w = .ok (.bool r) w) ∧ a ≠ .nilIface ∧ (∀ cs, a ≠ .agg cs) := by
  have hu := underlying_of_sh hsh
  have key : ∀ (a : Option Addr) (n m : Nat) (op : BinOp) (c : AV) (e : TypeId), P.underlying t = some (.slice e) → (match op with | .eql | .neq => some AV.anyb | _ => none) = some c →
      ∃ r, Rep E w c (.bool r) ∧ (binOp op t (.slice a n m) (.slice none 0 0)).run P w = .ok (.bool r) w := by
    intro a n m op c e hu h
    have hq := fun r => bin_eq (P := P) (w := w) (op := op) (t := t) (a := .slice a n m) (b := .slice none 0 0) (r := a.isNone) (c := r) (by simp) (by simp) (by simp) (by simp) (eqIn_slx hu a n m)
    cases op <;> simp only [reduceCtorEq, Option.some.injEq] at h
    · subst h; exact ⟨_, by simp [Rep], (hq (.bool a.isNone) rfl).1⟩
    · subst h; exact ⟨_, by simp [Rep], (hq (.bool !a.isNone) rfl).1⟩
  unfold vnilq at h
  split at h
  · obtain ⟨e, hu⟩ := hu
    simp only [Rep] at hx hy; subst hy; obtain ⟨a, cap, rfl, _⟩ := hx
    exact ⟨key a _ cap op c e hu h, by simp, by simp⟩
  · obtain ⟨e, hu⟩ := hu
    simp only [Rep] at hx hy; subst hy; obtain ⟨a, rfl, _⟩ := hx
    exact ⟨key a _ _ op c e hu h, by simp, by simp⟩
  · rename_i a0 n
    simp only [Rep] at hx hy
    obtain ⟨m, hnm, rfl⟩ := hy
    subst hx
    refine ⟨?_, by simp, by simp⟩
    split at h
    · split at h
      · rename_i hle
        simp only [Option.some.injEq] at h; subst h
        have hv : vint .gtr .i64 a0 (m : Int) = some (.bool (decide (a0 > (m : Int)))) := by simp [vint]
        obtain ⟨h1, _⟩ := vint_run (P := P) (t := t) (k := .i64) (k' := .i64) (op := .gtr) (by simp) hv w
        have hd : decide (a0 > (m : Int)) = false := by simp; omega
        rw [hd] at h1
        exact ⟨false, by simp [Rep], h1⟩
      · simp at h
    · simp at h
  · simp at h

theorem vun_run {op : UnOp} {x c : AV} {a : Value} (h : vun op x = some c) (hx : Rep E w x a) : (Op.unary op a).run P w = .ok (plainV c) w ∧ c.plain = true := by
  unfold vun at h
  split at h
  · simp only [Rep] at hx; subst hx
    simp only [Option.some.injEq] at h; subst h
    exact ⟨by simp [Op.unary, Op.intArith, plainV], rfl⟩
  · simp only [Rep] at hx; subst hx
    simp only [bitsOf, Option.map_some, Option.some.injEq] at h; subst h
    exact ⟨by simp [Op.unary, Op.intBits, plainV], rfl⟩
  · simp only [Rep] at hx; subst hx
    simp only [Option.some.injEq] at h; subst h
    exact ⟨by simp [Op.unary, plainV], rfl⟩
  · simp at h

/-! ### Loads and stores -/

theorem vload_run (hi : Inv G own E w σ) {t : TypeId} {agg : Bool} {i : TypeInfo} (ha : isAggT P t = some agg) (hti : P.info? t = some i) {x : AV} {a : Value} (hx : Rep E w x a) {r : Res}
    (h : vload σ agg i.size x = some r) : (∃ v, (Instr.loadAt t a).run P w = .ok v w ∧ Rep E w r.val v) ∧ r.up = [] ∧ ∃ ad, a = .pointer (some ad) := by
  have key : ∀ (b q o : Nat) (cs : List AV) (c : AV), RepAt E w b q cs → part agg cs o i.size = some c → (∃ v, (Instr.loadAt t (.pointer (some ⟨b, q + o, none⟩))).run P w = .ok v w ∧ Rep E w c v) := by
    intro b q o cs c hr hp
    unfold part at hp
    split at hp
    · rename_i hle
      cases agg with
      | true =>
        simp only [if_true, Option.some.injEq] at hp; subst hp
        have hcells : ∀ j, j < i.size → ∃ v, w.cell? ⟨b, q + o + j, none⟩ = some v ∧ ∃ d, ((cs.drop o).take i.size)[j]? = some d ∧ Rep E w d v := by
          intro j hj
          have hlt : o + j < cs.length := by omega
          obtain ⟨v, hv, hrv⟩ := hr (o + j) cs[o + j] (by simp [hlt])
          refine ⟨v, by rw [← hv]; congr 2; omega, cs[o + j], ?_, hrv⟩
          rw [List.getElem?_take_of_lt hj, List.getElem?_drop]; simp [hlt]
        let f : Nat → Value := fun j => (w.cell? ⟨b, q + o + j, none⟩).getD undef
        have hf : ∀ j, j < i.size → w.cell? ((⟨b, q + o, none⟩ : Addr).add j) = some (f j) := by
          intro j hj
          obtain ⟨v, hv, _⟩ := hcells j hj
          rw [Addr.add_lit]; simp [f, hv]
        have hl := run_loadCells (P := P) w ⟨b, q + o, none⟩ i.size f hf
        refine ⟨.agg ((List.range i.size).map f).toArray, ?_, ?_⟩
        · simp [Instr.loadAt, Instr.sureAddr, loadVar, isAggT_run ha, sizeOf_run hti, hl]
        · simp only [Rep]
          refine ⟨_, rfl, repL_iff.2 ⟨by simp; omega, fun j d hj => ?_⟩⟩
          have hjl : j < i.size := by
            have := (List.getElem?_eq_some_iff.1 hj).1
            simp at this; omega
          obtain ⟨v, hv, d', hd', hrd⟩ := hcells j hjl
          have : d = d' := by rw [hj] at hd'; simpa using hd'
          subst this
          refine ⟨v, ?_, hrd⟩
          simp [hjl, f, hv]
      | false =>
        simp only [Bool.false_eq_true, if_false] at hp
        split at hp
        · rename_i h1
          obtain ⟨v, hv, hrv⟩ := hr o c hp
          refine ⟨v, ?_, hrv⟩
          simp [Instr.loadAt, Instr.sureAddr, loadVar, isAggT_run ha, hv]
        · simp at hp
    · simp at hp
  unfold vload at h
  split at h
  · rename_i id e o
    split at h
    · rename_i bk hσ
      split at h
      · rename_i el hel
        cases hp : part agg el.cells o i.size with
        | none => simp [hp] at h
        | some c =>
          simp only [hp, Option.map_some, Option.some.injEq] at h; subst h
          obtain ⟨g, N, cur, ty, hB⟩ := hi.blk id bk hσ
          simp only [Rep] at hx
          obtain ⟨g', k', N', hm, rfl⟩ := hx
          rw [hB.μ] at hm
          simp only [Option.some.injEq, Prod.mk.injEq] at hm
          obtain ⟨rfl, rfl, rfl⟩ := hm
          have := repAt_el hB.k hB.row hel
          rw [Nat.zero_add] at this
          exact ⟨key _ _ _ _ _ this hp, rfl, _, rfl⟩
      · simp at h
    · simp at h
  · rename_i cs o
    cases hp : part agg cs o i.size with
    | none => simp [hp] at h
    | some c =>
      simp only [hp, Option.map_some, Option.some.injEq] at h; subst h
      simp only [Rep] at hx
      obtain ⟨b, q, rfl, _, hr⟩ := hx
      exact ⟨key _ _ _ _ _ (repCells_iff.1 hr) hp, rfl, _, rfl⟩
  · simp at h

theorem vload_sound (hi : Inv G own E w σ) {t : TypeId} {agg : Bool} {i : TypeInfo} (ha : isAggT P t = some agg) (hti : P.info? t = some i) {x : AV} {a : Value} (hx : Rep E w x a) {r : Res}
    (h : vload σ agg i.size x = some r) : Sound P G own E w σ p (Instr.loadAt t a) r := by
  obtain ⟨⟨v, h1, h2⟩, h3, _⟩ := vload_run hi ha hti hx h
  exact ⟨v, w, E, h1, Adv.refl own E w, by rw [h3]; exact hi, h2, fun _ _ => rfl⟩

theorem cells_all_one {c : AV} (h : c.cells.all AV.one = true) : ∀ x ∈ c.cells, x.one = true := by simpa using h

theorem vstore_sound (hi : Inv G own E w σ) {t : TypeId} {i : TypeInfo} (hti : P.info? t = some i) {x y : AV} {a b : Value} (hx : Rep E w x a) (hy : Rep E w y b) {r : Res}
    (h : vstore σ i.size x y = some r) : ∃ w', (Instr.storeAt t a b).run P w = .ok () w' ∧ OpPost G own E w σ p r undef E w' := by
  unfold vstore at h
  split at h
  · rename_i id e o
    split at h
    · rename_i bk hσ
      split at h
      · rename_i el hel
        split at h
        · rename_i hh
          obtain ⟨hfr, hlen, hle, hone⟩ := hh
          simp only [Option.some.injEq] at h; subst h
          obtain ⟨g, N, cur, ty, hB⟩ := hi.blk id bk hσ
          simp only [Rep] at hx
          obtain ⟨g', k', N', hm, rfl⟩ := hx
          rw [hB.μ] at hm
          simp only [Option.some.injEq, Prod.mk.injEq] at hm
          obtain ⟨rfl, rfl, rfl⟩ := hm
          have hone' := cells_all_one hone
          have hrc := Rep.cells hy (one_or_agg hone)
          have hvl : b.cells.size = i.size := by have := RepL.len hrc; simp at this; omega
          obtain ⟨hb, hadv, hinv⟩ := store_ok hi hσ hfr hB hel (o := o) (new := y.cells) (vs := b.cells.toList) (by omega) hone' hrc
          refine ⟨_, ?_, hadv, hinv, ?_, fun _ _ => rfl⟩
          · have h1 : ∀ v ∈ b.cells.toList, v.oneCell' = true := by
              intro v hv
              obtain ⟨j, hj⟩ := List.mem_iff_getElem?.1 hv
              obtain ⟨hl2, hp2⟩ := repL_iff.1 hrc
              have hjl : j < y.cells.length := by have := (List.getElem?_eq_some_iff.1 hj).1; omega
              obtain ⟨u, hu, hru⟩ := hp2 j y.cells[j] (by simp [hjl])
              have : u = v := by rw [hj] at hu; simpa using hu.symm
              subst this
              exact Rep.one hru (hone' _ (by simp))
            have hst := run_storeCells_at P g (e * bk.k + o) ty b.cells.toList 0 cur w hB.heap (by simpa using hb) h1
            simp only [Nat.add_zero] at hst
            simp [Instr.storeAt, Instr.sureAddr, storeVar, sizeOf_run hti, hvl, hst]
          · simp only [Rep, undef]; exact ⟨#[], rfl, by simp [RepL]⟩
        · simp at h
      · simp at h
    · simp at h
  · simp at h

/-! ### New blocks -/

theorem new_sound (hi : Inv G own E w σ) (hμ : E.μ p = none) (hσ : σ p = none) {els : List AV} {k N : Nat} {vs : List Value} (ty : TypeId)
    (hk : ∀ e ∈ els, e.size = k) (hv : RepP E w (flat els) vs) (hl : vs.length = N * k) (hN : els.length ≤ N) (hm : N ≤ maxLen) {c : AV} {v : Value}
    (hc : Rep (E.bind p w.heap.size k N) (w.alloc (.cells vs.toArray ty)) c v) {rd : List Id} :
    OpPost G own E w σ p { val := c, rd := rd, up := [(p, some ⟨els, k, false⟩)] } v (E.bind p w.heap.size k N) (w.alloc (.cells vs.toArray ty)) := by
  obtain ⟨h1, h2⟩ := alloc_ok hi hμ hσ ty hk hv hl hN hm
  exact ⟨h1, h2, hc, fun i hne => Env.bind_other _ _ _ _ _ (fun e => hne (by rw [e]; exact List.suffix_refl _))⟩

theorem box_sound (hi : Inv G own E w σ) (hμ : E.μ p = none) (hσ : σ p = none) {x : AV} {a : Value} (hx : Rep E w x a) (hone : x.cells.all AV.one = true) (t : TypeId) :
    Sound P G own E w σ p (do pure (.pointer (some (← newVar t a)))) { val := .ref p 0 0, up := [(p, some ⟨[x], x.size, false⟩)] } := by
  have hrc := Rep.cells hx (one_or_agg hone)
  obtain ⟨hl, hp⟩ := repL_iff.1 hrc
  refine ⟨.pointer (some ⟨w.heap.size, 0, none⟩), w.alloc (.cells a.cells t), E.bind p w.heap.size x.size 1, by simp [newVar, newRow], ?_⟩
  have := new_sound (p := p) (rd := []) hi hμ hσ (els := [x]) (k := x.size) (N := 1) (vs := a.cells.toList) t (by simp) (by simpa [flat] using hp) (by simpa [AV.size] using hl) (by simp) (by unfold maxLen; omega)
    (c := .ref p 0 0) (v := .pointer (some ⟨w.heap.size, 0, none⟩)) (by simp only [Rep]; exact ⟨w.heap.size, x.size, 1, Env.bind_same _ _ _ _ _, by simp⟩)
  simpa using this

end

end Go.VL
