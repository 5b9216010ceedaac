/- The V-layer, part 29: a call ahead of which blocks are frozen; steps of lists; bounds. -/
import Derived.Test.YtcomlgfjnjpebaaGreatDoorVL28
namespace Go.VL

section
variable {P : Program} {G : Nat → Option (List AV)}

theorem app_append {σ : Store} : ∀ (a b : List (Id × Option Blk)), σ.app (a ++ b) = (σ.app a).app b := by
  intro a
  induction a generalizing σ with
  | nil => intro b; rfl
  | cons x a ih => intro b; simp only [List.cons_append, Store.app]; exact ih b

/-- A call ahead of which the blocks of F are frozen. -/
theorem CallRel.frzArgs {f : FuncId} {args args' : List AV} {p : Id} {S : List (Id × Blk)} {r : Res} (F : List (Id × Blk)) (h : CallRel P G f args' p S r) (hv : ViewML F args args')
    (hd : ∀ x ∈ S, ∀ y ∈ F, y.1 ≠ x.1) (hk : ∀ x ∈ F, ∀ e ∈ x.2.els, e.size = x.2.k) : CallRel P G f args p (F ++ S) { val := r.val, rd := F.map (·.1) ++ r.rd, up := frz F ++ r.up } := by
  refine ⟨h.1, fun own E w σ vs hS hi hr hμ => ?_⟩
  have hF : ∀ x ∈ F, σ x.1 = some x.2 := fun x hx => hS x (List.mem_append_left _ hx)
  have hS2 : ∀ x ∈ S, σ x.1 = some x.2 := fun x hx => hS x (List.mem_append_right _ hx)
  have happ := fun i => app_frz (σ := σ) i F σ hF
  obtain ⟨ha, hi1⟩ := freeze_core (p := p) (σ' := σ.app (frz F)) F hF (fun i => by
    rw [happ i]
    split
    · rename_i hin
      obtain ⟨x, hx, rfl⟩ := hin
      rw [hF x hx]
      exact .inr ⟨x.2, x.2.fz, rfl, rfl, rfl, .inr ⟨rfl, hx⟩, fun h => by simp [Blk.fz] at h, rfl, hk x hx, ViewML.same F _⟩
    · rename_i hnin
      cases hb : σ i with
      | none => exact .inl rfl
      | some bk =>
        obtain ⟨g, N, cur, ty, hB⟩ := hi.blk i bk hb
        exact .inr ⟨bk, bk, rfl, rfl, rfl, .inl rfl, fun _ x hx e => hnin ⟨x, hx, e⟩, rfl, hB.k, ViewML.same F _⟩) hi
  have hr1 := hv.repL (hi.sub (Store.of_sub hF)) hr
  refine (h.2 own _ w (σ.app (frz F)) vs (fun x hx => ?_) hi1 hr1 hμ).mono fun e w' he => ?_
  · rw [happ x.1, if_neg]
    · exact hS2 x hx
    · rintro ⟨y, hy, e⟩; exact hd x hx y hy e
  · obtain ⟨v, E', rfl, hp⟩ := he
    exact ⟨v, E', rfl, ha.toAdv.trans hp.adv, by rw [app_append]; exact hp.inv, hp.rep, hp.ids⟩
end

theorem elemsOf_sl {σ : Store} {k : Nat} {es : List AV} : elemsOf σ k (.sl k es) = some (es, []) := by simp [elemsOf]
theorem elemsOf_nils {σ : Store} {k : Nat} : elemsOf σ k .nils = some ([], []) := rfl
theorem elemsOf_osl {σ : Store} {k : Nat} {id : Id} {off len : Nat} {t : Bool} {bk : Blk} (h : σ id = some bk) (hk : bk.k = k) (hl : off + len ≤ bk.els.length) : elemsOf σ k (.osl id k off len t) = some ((bk.els.drop off).take len, [id]) := by
  simp [elemsOf, h, hk, hl]

/-- Appended to a whole block of the frame's own. -/
theorem vappend_full {σ : Store} {p id : Id} {k bytes len : Nat} {x : AV} {els ys : List AV} {rd : List Id} (hx : elemsOf σ k x = some (ys, rd)) (hy : ys ≠ []) (h : σ id = some ⟨els, k, false⟩) (hl : len = els.length)
    (hb : (len + ys.length) * bytes ≤ 140737488355328) (hm : len + ys.length ≤ maxLen) (h1 : (ys.all fun e => e.cells.all AV.one) = true) (h2 : (els.all fun e => e.cells.all AV.one) = true) :
    vappend σ p k bytes (.osl id k 0 len false) x = some { val := .osl p k 0 (len + ys.length) false, rd := id :: rd, up := [(id, none), (p, some ⟨els ++ ys, k, false⟩)] } := by
  have hne : ys.isEmpty = false := by cases ys <;> simp at hy ⊢
  unfold vappend
  rw [hx]
  simp only [hne, h, h1, h2, hl, Bool.false_eq_true, if_false]
  rw [if_pos ⟨trivial, trivial, trivial, Nat.le_refl _, by rw [← hl]; exact hb, by rw [← hl]; exact hm, trivial⟩]
  simp
/-- Appended to nil. -/
theorem vappend_nils {σ : Store} {p : Id} {k bytes : Nat} {x : AV} {ys : List AV} {rd : List Id} (hx : elemsOf σ k x = some (ys, rd)) (hy : ys ≠ []) (hb : ys.length * bytes ≤ 140737488355328) (hm : ys.length ≤ maxLen) (h1 : (ys.all fun e => e.cells.all AV.one) = true) :
    vappend σ p k bytes .nils x = some { val := .osl p k 0 ys.length false, rd, up := [(p, some ⟨ys, k, false⟩)] } := by
  have hne : ys.isEmpty = false := by cases ys <;> simp at hy ⊢
  unfold vappend
  rw [hx]
  simp only [hne, h1, Bool.false_eq_true, if_false]
  rw [if_pos ⟨hb, hm, trivial⟩]
/-- Appended to a slice without room behind it. -/
theorem vappend_tsl {σ : Store} {p : Id} {k bytes : Nat} {x : AV} {es ys : List AV} {rd : List Id} (hx : elemsOf σ k x = some (ys, rd)) (hy : ys ≠ []) (hb : (es.length + ys.length) * bytes ≤ 140737488355328) (hm : es.length + ys.length ≤ maxLen) (h1 : ((es ++ ys).all fun e => e.cells.all AV.one) = true) :
    vappend σ p k bytes (.tsl k es) x = some { val := .osl p k 0 (es.length + ys.length) false, rd, up := [(p, some ⟨es ++ ys, k, false⟩)] } := by
  have hne : ys.isEmpty = false := by cases ys <;> simp at hy ⊢
  unfold vappend
  rw [hx]
  simp only [hne, h1, Bool.false_eq_true, if_false]
  rw [if_pos ⟨trivial, hb, hm, trivial⟩]
/-- Nothing is appended. -/
theorem vappend_none {σ : Store} {p id : Id} {k bytes off len : Nat} {t : Bool} {x : AV} {rd : List Id} (hx : elemsOf σ k x = some ([], rd)) : vappend σ p k bytes (.osl id k off len t) x = some { val := .osl id k off len t, rd } := by
  unfold vappend; rw [hx]; rfl
theorem le_maxLen {n : Nat} (h : n ≤ 140737488355328) : n ≤ maxLen := Nat.le_trans h (by decide)

theorem bs0 {σ : Store} {p : Id} {k : Nat} {z : AV} (hz : z.size = k) (hz1 : z.cells.all AV.one = true) : vop σ p (.buildSl k 0 z []) = some { val := .osl p k 0 0 false, up := [(p, some ⟨[], k, false⟩)] } := by
  rw [vop_buildSl]; simp only [vfillEls, List.replicate_zero]; rw [if_pos ⟨hz, hz1⟩]
theorem bs1 {σ : Store} {p : Id} {k : Nat} {z x : AV} (hx : x.size = k) (hx1 : x.cells.all AV.one = true) (hz : z.size = k) (hz1 : z.cells.all AV.one = true) :
    vop σ p (.buildSl k 1 z [(0, x)]) = some { val := .osl p k 0 1 false, up := [(p, some ⟨[x], k, false⟩)] } := by
  rw [vop_buildSl]
  have e : vfillEls k (List.replicate 1 z) [(0, x)] = some [x] := by simp only [vfillEls, List.replicate_succ, List.replicate_zero]; rw [if_pos ⟨hx, by simp, hx1⟩]; rfl
  rw [e]; simp only []; rw [if_pos ⟨hz, hz1⟩]
theorem bs2 {σ : Store} {p : Id} {k : Nat} {z x y : AV} (hx : x.size = k) (hx1 : x.cells.all AV.one = true) (hy : y.size = k) (hy1 : y.cells.all AV.one = true) (hz : z.size = k) (hz1 : z.cells.all AV.one = true) :
    vop σ p (.buildSl k 2 z [(0, x), (1, y)]) = some { val := .osl p k 0 2 false, up := [(p, some ⟨[x, y], k, false⟩)] } := by
  rw [vop_buildSl]
  have e : vfillEls k (List.replicate 2 z) [(0, x), (1, y)] = some [x, y] := by
    simp only [vfillEls, List.replicate_succ, List.replicate_zero]
    rw [if_pos ⟨hx, by simp, hx1⟩, if_pos ⟨hy, by simp, hy1⟩]; rfl
  rw [e]; simp only []; rw [if_pos ⟨hz, hz1⟩]

section
variable {P : Program} {G : Nat → Option (List AV)}
theorem endQ_ret {p : Id} {S : List (Id × Blk)} {rs : List VRes} {r : Res} {s : VS} : EndQ G p S rs r .ret s = ∃ r0, outAV rs s = some r0 ∧ Fin G p S s.σ r0 r := by simp [EndQ]
theorem endQ_normal {p : Id} {S : List (Id × Blk)} {rs : List VRes} {r : Res} {s : VS} : EndQ G p S rs r .normal s = ∃ r0, outAV rs s = some r0 ∧ Fin G p S s.σ r0 r := by simp [EndQ]
theorem endQ_of_same {p : Id} {S : List (Id × Blk)} {rs : List VRes} {r : Res} {s : VS} (h : outAV rs s = some r.val) (hs : ∀ i, (Store.of S).app r.up i = none ∨ (Store.of S).app r.up i = s.σ i) : ∃ r0, outAV rs s = some r0 ∧ Fin G p S s.σ r0 r := ⟨_, h, Fin.same rfl hs⟩
end

theorem vfillEls_nil {k : Nat} {es : List AV} : vfillEls k es [] = some es := rfl

end Go.VL
