/- The V-layer, part 21: code that runs on given trees is run. -/
import Derived.Test.YtcomlgfjnjpebaaGreatDoorVL20
namespace Go.VL

/-- A store as a list: each block's name, the block, and whether it has been written. -/
abbrev LStore := List (Id × Blk × Bool)

def LStore.find : LStore → Id → Option Blk
  | [], _ => none
  | (j, b, _) :: L, i => if i = j then some b else LStore.find L i
def LStore.del : LStore → Id → LStore
  | [], _ => []
  | x :: L, i => if i = x.1 then LStore.del L i else x :: LStore.del L i
def LStore.to (L : LStore) : Store := fun i => L.find i
def LStore.one (L : LStore) : Id × Option Blk → LStore
  | (i, some b) => (i, b, true) :: L.del i
  | (i, none) => L.del i
def LStore.app (L : LStore) : List (Id × Option Blk) → LStore
  | [] => L
  | x :: up => (L.one x).app up

theorem LStore.find_del (L : LStore) (i j : Id) : (L.del i).find j = if j = i then none else L.find j := by
  induction L with
  | nil => simp [LStore.del, LStore.find]
  | cons x L ih =>
    obtain ⟨a, b, c⟩ := x
    simp only [LStore.del]
    by_cases h : i = a
    · subst h
      simp only [if_true, ih, LStore.find]
      by_cases h2 : j = i
      · simp [h2]
      · simp [h2]
    · simp only [if_neg h, LStore.find, ih]
      by_cases h2 : j = a
      · subst h2
        have : ¬ j = i := fun e => h e.symm
        simp [this]
      · simp [h2]

theorem LStore.to_one (L : LStore) (x : Id × Option Blk) : (L.one x).to = L.to.put x.1 x.2 := by
  obtain ⟨i, b⟩ := x
  funext j
  cases b with
  | none => simp only [LStore.one, LStore.to, LStore.find_del, Store.put]
  | some b =>
    simp only [LStore.one, LStore.to, LStore.find, LStore.find_del, Store.put]
    split <;> simp_all

theorem LStore.to_app (up : List (Id × Option Blk)) : ∀ L : LStore, (L.app up).to = L.to.app up := by
  induction up with
  | nil => intro L; rfl
  | cons x up ih => intro L; simp only [LStore.app, ih, LStore.to_one, Store.app]

/-! ### Which blocks a tree leads to -/

mutual
def AV.ids : AV → List Id
  | .fn _ a c => idsL a ++ idsL c
  | .agg cs | .tup cs | .sl _ cs | .tsl _ cs | .ep cs _ => idsL cs
  | .osl i _ _ _ _ | .ref i _ _ => [i]
  | _ => []
def idsL : List AV → List Id
  | [] => []
  | c :: cs => c.ids ++ idsL cs
end

/-- The blocks of the store that the names lead to. -/
def reach : Nat → LStore → List Id → List (Id × Blk) → List (Id × Blk)
  | 0, _, _, S => S
  | _ + 1, _, [], S => S
  | n + 1, L, i :: is, S => match S.lookup i with
    | some _ => reach n L is S
    | none => match L.find i with
      | some b => reach n L (idsL b.els ++ is) ((i, b) :: S)
      | none => reach n L is S

theorem reach_sub {L : LStore} : ∀ (n : Nat) (is : List Id) (S : List (Id × Blk)), (∀ x ∈ S, L.to x.1 = some x.2) → ∀ x ∈ reach n L is S, L.to x.1 = some x.2
  | 0, _, _, h => h
  | _ + 1, [], _, h => by simpa [reach] using h
  | n + 1, i :: is, S, h => by
    simp only [reach]
    split
    · exact reach_sub n is S h
    · split
      · rename_i b hb
        refine reach_sub n _ _ fun x hx => ?_
        rcases List.mem_cons.1 hx with rfl | hx
        · exact hb
        · exact h x hx
      · exact reach_sub n is S h

/-! ### Tables of functions -/

inductive Tab where
  | leaf
  | node (k : Nat) (v : VFunc) (l r : Tab)

def Tab.find : Tab → Nat → Option VFunc
  | .leaf, _ => none
  | .node k v l r, f => if f = k then some v else if f < k then l.find f else r.find f

/-- The functions of a table are those of the program. -/
def Tab.Of (P : Program) : Tab → Prop
  | .leaf => True
  | .node k v l r => (∃ fn, P.funcs[k]? = some fn ∧ cFunc P fn = some v) ∧ l.Of P ∧ r.Of P

theorem Tab.of_find {P : Program} {f : Nat} {vf : VFunc} : ∀ {T : Tab}, T.Of P → T.find f = some vf → ∃ fn, P.funcs[f]? = some fn ∧ cFunc P fn = some vf
  | .leaf, _, h => by simp [Tab.find] at h
  | .node k v l r, ho, h => by
    simp only [Tab.find] at h
    split at h
    · rename_i e
      simp only [Option.some.injEq] at h
      subst h; subst e
      exact ho.1
    · split at h
      · exact Tab.of_find ho.2.1 h
      · exact Tab.of_find ho.2.2 h

/-! ### The run -/

section
variable (G : Nat → Option (List AV))

def evStep (C : FuncId → List AV → Id → LStore → Option Res) (L : LStore) (p : Id) (op : VOp AV) : Option Res :=
  match op with
  | .call f as => match f with
    | .fn (.func f) first cap => C f (first ++ as ++ cap) p L
    | _ => none
  | op => vop L.to p op

def evOps (C : FuncId → List AV → Id → LStore → Option Res) (π : Id) (base : Nat) : List VOper → Nat → List Res → List AV → LStore → Option (List Res × List AV × LStore)
  | [], _, acc, t, L => some (acc, t, L)
  | o :: os, i, acc, t, L => match vwanted t o.guard with
    | none => none
    | some false => evOps C π base os (i + 1) ({ val := .tup [] } :: acc) (putT t o.dst (.tup [])) L
    | some true => match evStep C L ((base + i) :: π) (o.op.map (VArg.ev G t)) with
      | none => none
      | some r => evOps C π base os (i + 1) (r :: acc) (putT t o.dst r.val) (L.app r.up)

def noneIn (a b : List Id) : Bool := a.all fun i => !b.contains i

def apartB (a b : Res) : Bool := noneIn (a.up.map (·.1)) b.rd && noneIn (a.up.map (·.1)) (b.up.map (·.1)) && noneIn (b.up.map (·.1)) a.rd

def allApartB (rs : List Res) (ps : List (Nat × Nat)) : Bool := ps.all fun q => match rs[q.1]?, rs[q.2]? with
  | some a, some b => apartB a b
  | _, _ => true

structure LS where
  t : List AV
  L : LStore
  n : Nat
def LS.to (s : LS) : VS := ⟨s.t, s.L.to, s.n⟩

/-- The blocks that are still led to. -/
def LStore.live (L : LStore) (K : List (Id × Blk)) : LStore := L.filter fun x => (K.lookup x.1).isSome

/-- The blocks of the caller that are there no more, or have been written, and the new ones. -/
def ups (S : List (Id × Blk)) (L : LStore) : List (Id × Option Blk) :=
  (S.filter fun x => (L.find x.1).isNone).map (fun x => (x.1, none)) ++ (L.filter fun x => x.2.2).map fun x => (x.1, some x.2.1)

def evFunc (X : FuncId → List AV → Id → LStore → Option Res) (R : VCode → Id → LS → Option (VExit × LS)) (T : Tab) (f : FuncId) (args : List AV) (p : Id) (L : LStore) : Option Res :=
  match X f args p L with
  | some r => some r
  | none =>
  match T.find f with
  | none => none
  | some vf =>
    let S := reach 1000 L (idsL args) []
    match R vf.body p ⟨args ++ List.replicate (vf.nt - args.length) (.tup []), S.map fun x => (x.1, x.2, false), 0⟩ with
    | some (.normal, s) | some (.ret, s) => match outAV vf.results s.to with
      | some r0 => some { val := r0, rd := S.map (·.1), up := ups S (s.L.live (reach 1000 s.L (r0.ids ++ S.map (·.1)) [])) }
      | none => none
    | _ => none

def run (X : FuncId → List AV → Id → LStore → Option Res) (T : Tab) : Nat → VCode → Id → LS → Option (VExit × LS)
  | 0, _, _, _ => none
  | m + 1, c, π, s => match c with
    | .skip => some (.normal, s)
    | .ret => some (.ret, s)
    | .exit i => some (.exit i, s)
    | .seq a b => match run X T m a π s with
      | some (.normal, s') => run X T m b π s'
      | r => r
    | .cond c a b => match c.ev G s.t with
      | .bool true => run X T m a π s
      | .bool false => run X T m b π s
      | _ => none
    | .block i c => match run X T m c π s with
      | some (.exit j, s') => if j = i then some (.normal, s') else some (.exit j, s')
      | r => r
    | .loop c => match run X T m c π s with
      | some (.normal, s') => run X T m (.loop c) π s'
      | r => r
    | .reg ps os => match evOps G (evFunc X (run X T m) T) π s.n os 0 [] s.t s.L with
      | none => none
      | some (rs, t, L) => match ps with
        | none => some (.normal, ⟨t, L, s.n + os.length⟩)
        | some ps => if allApartB rs.reverse ps then some (.normal, ⟨t, L, s.n + os.length⟩) else none

end

/-! ### It is sound -/

section
variable {P : Program} {G : Nat → Option (List AV)} {X : FuncId → List AV → Id → LStore → Option Res} {T : Tab}

/-- What is asked of the run of a call. -/
def CallOk (P : Program) (G : Nat → Option (List AV)) (C : FuncId → List AV → Id → LStore → Option Res) : Prop :=
  ∀ f args p L r, C f args p L = some r → ∃ S, CallRel P G f args p S r ∧ (∀ x ∈ S, L.to x.1 = some x.2) ∧ ∀ x ∈ S, x.1 ∈ r.rd

theorem evStep_sound {C : FuncId → List AV → Id → LStore → Option Res} (hC : CallOk P G C) {L : LStore} {p : Id} {op : VOp AV} {r : Res} (h : evStep C L p op = some r) {K : Res → Prop} (hK : K r) : vstep P G L.to p op K := by
  unfold evStep at h
  unfold vstep
  cases op with
  | call f as =>
    simp only [] at h ⊢
    split at h
    · obtain ⟨S, h1, h2, h3⟩ := hC _ _ _ _ _ h
      exact ⟨S, r, h1, h2, h3, hK⟩
    · simp at h
  | _ => simp only [] at h ⊢; rw [h]; exact hK

theorem evOps_par {C : FuncId → List AV → Id → LStore → Option Res} (hC : CallOk P G C) {π : Id} {base : Nat} {rs : List Res} {t' : List AV} {L' : LStore} {K : List Res → List AV → Store → Prop} (hK : K rs.reverse t' L'.to) :
    ∀ (os : List VOper) (i : Nat) (acc : List Res) (t : List AV) (L : LStore), evOps G C π base os i acc t L = some (rs, t', L') → vpar P G π base K os i acc t L.to
  | [], i, acc, t, L, h => by
    simp only [evOps, Option.some.injEq, Prod.mk.injEq] at h
    obtain ⟨rfl, rfl, rfl⟩ := h
    exact hK
  | o :: os, i, acc, t, L, h => by
    simp only [evOps] at h
    simp only [vpar]
    split at h
    · simp at h
    · rename_i hw; rw [hw]; exact evOps_par hC hK os _ _ _ _ h
    · rename_i hw
      rw [hw]
      split at h
      · simp at h
      · rename_i r hr
        have := evOps_par hC hK os _ _ _ _ h
        rw [LStore.to_app] at this
        exact evStep_sound hC hr this

theorem evOps_seq {C : FuncId → List AV → Id → LStore → Option Res} (hC : CallOk P G C) {π : Id} {base : Nat} {rs : List Res} {t' : List AV} {L' : LStore} {K : List AV → Store → Prop} (hK : K t' L'.to) :
    ∀ (os : List VOper) (i : Nat) (acc : List Res) (t : List AV) (L : LStore), evOps G C π base os i acc t L = some (rs, t', L') → vseq P G π base K os i t L.to
  | [], i, acc, t, L, h => by
    simp only [evOps, Option.some.injEq, Prod.mk.injEq] at h
    obtain ⟨rfl, rfl, rfl⟩ := h
    exact hK
  | o :: os, i, acc, t, L, h => by
    simp only [evOps] at h
    simp only [vseq]
    split at h
    · simp at h
    · rename_i hw; rw [hw]; exact evOps_seq hC hK os _ _ _ _ h
    · rename_i hw
      rw [hw]
      split at h
      · simp at h
      · rename_i r hr
        have := evOps_seq hC hK os _ _ _ _ h
        rw [LStore.to_app] at this
        exact evStep_sound hC hr this

theorem noneIn_spec {a b : List Id} (h : noneIn a b = true) {i : Id} (hi : i ∈ a) : i ∉ b := by
  simp only [noneIn, List.all_eq_true, Bool.not_eq_true', List.contains_eq_mem, decide_eq_false_iff_not] at h
  exact h i hi

theorem allApartB_spec {rs : List Res} {ps : List (Nat × Nat)} (h : allApartB rs ps = true) : allApart rs ps := by
  intro q hq a b ha hb
  simp only [allApartB, List.all_eq_true] at h
  have := h q hq
  rw [ha, hb] at this
  simp only [apartB, Bool.and_eq_true] at this
  obtain ⟨⟨h1, h2⟩, h3⟩ := this
  exact ⟨fun x hx => ⟨noneIn_spec h1 (List.mem_map.2 ⟨x, hx, rfl⟩), noneIn_spec h2 (List.mem_map.2 ⟨x, hx, rfl⟩)⟩, fun x hx => noneIn_spec h3 (List.mem_map.2 ⟨x, hx, rfl⟩)⟩

theorem find_init (S : List (Id × Blk)) (i : Id) : (LStore.find (S.map fun x => (x.1, x.2, false)) i) = S.lookup i := by
  induction S with
  | nil => rfl
  | cons x S ih =>
    obtain ⟨j, b⟩ := x
    simp only [List.map_cons, LStore.find, ih, List.lookup_cons]
    by_cases h : i = j
    · simp [h]
    · have : (i == j) = false := by simpa using h
      simp [h, this]

theorem find_mem {L : LStore} {i : Id} {b : Blk} (h : L.find i = some b) : ∃ d, (i, b, d) ∈ L := by
  induction L with
  | nil => simp [LStore.find] at h
  | cons x L ih =>
    obtain ⟨j, c, d⟩ := x
    simp only [LStore.find] at h
    split at h
    · rename_i e; subst e; simp only [Option.some.injEq] at h; subst h; exact ⟨d, by simp⟩
    · obtain ⟨d', hd⟩ := ih h; exact ⟨d', by simp [hd]⟩

/-- The first entry of a name is not the same as S has, only if it has been written. -/
def Clean (S : List (Id × Blk)) (L : LStore) : Prop := (∀ i b, (i, b, false) ∈ L → S.lookup i = some b) ∧ (L.map (·.1)).Nodup

theorem Clean.del {S : List (Id × Blk)} {L : LStore} (h : Clean S L) (i : Id) : Clean S (L.del i) ∧ i ∉ (L.del i).map (·.1) ∧ ∀ x ∈ L.del i, x ∈ L := by
  have sub : ∀ L : LStore, (∀ x ∈ L.del i, x ∈ L) ∧ i ∉ (L.del i).map (·.1) ∧ (L.del i).Sublist L := by
    intro L
    induction L with
    | nil => simp [LStore.del]
    | cons x L ih =>
      simp only [LStore.del]
      split
      · exact ⟨fun y hy => List.mem_cons_of_mem _ (ih.1 y hy), ih.2.1, ih.2.2.cons _⟩
      · rename_i hne
        refine ⟨fun y hy => ?_, ?_, ih.2.2.cons_cons _⟩
        · rcases List.mem_cons.1 hy with rfl | hy
          · simp
          · exact List.mem_cons_of_mem _ (ih.1 y hy)
        · simp only [List.map_cons, List.mem_cons, not_or]
          exact ⟨hne, ih.2.1⟩
  exact ⟨⟨fun j b hj => h.1 j b ((sub L).1 _ hj), h.2.sublist ((sub L).2.2.map _)⟩, (sub L).2.1, (sub L).1⟩

theorem Clean.live {S : List (Id × Blk)} {L : LStore} (h : Clean S L) (K : List (Id × Blk)) : Clean S (L.live K) :=
  ⟨fun i b hi => h.1 i b (List.mem_filter.1 hi).1, h.2.sublist (List.filter_sublist.map _)⟩

theorem LStore.live_find (L : LStore) (K : List (Id × Blk)) (i : Id) : (L.live K).find i = none ∨ (L.live K).find i = L.find i := by
  induction L with
  | nil => exact .inl rfl
  | cons x L ih =>
    obtain ⟨j, b, d⟩ := x
    unfold LStore.live at ih ⊢
    by_cases hk : (K.lookup j).isSome = true
    · rw [List.filter_cons_of_pos (by exact hk)]
      simp only [LStore.find]
      by_cases h : i = j
      · simp [h]
      · simp only [if_neg h]; exact ih
    · rw [List.filter_cons_of_neg (by exact hk)]
      by_cases h : i = j
      · subst h
        left
        cases hf : LStore.find (L.filter fun x => (K.lookup x.1).isSome) i with
        | none => rfl
        | some c =>
          obtain ⟨d', hd⟩ := find_mem hf
          have := (List.mem_filter.1 hd).2
          exact absurd this hk
      · simp only [LStore.find, if_neg h]; exact ih

theorem Clean.one {S : List (Id × Blk)} {L : LStore} (h : Clean S L) (x : Id × Option Blk) : Clean S (L.one x) := by
  obtain ⟨i, b⟩ := x
  have hd := h.del i
  cases b with
  | none => exact hd.1
  | some b =>
    refine ⟨fun j c hj => ?_, ?_⟩
    · simp only [LStore.one, List.mem_cons, Prod.mk.injEq, Bool.false_eq_true, and_false, false_or] at hj
      exact hd.1.1 j c hj
    · simp only [LStore.one, List.map_cons, List.nodup_cons]
      exact ⟨hd.2.1, hd.1.2⟩

theorem Clean.app {S : List (Id × Blk)} : ∀ (up : List (Id × Option Blk)) {L : LStore}, Clean S L → Clean S (L.app up)
  | [], _, h => h
  | x :: up, _, h => Clean.app up (h.one x)

theorem evOps_clean {S : List (Id × Blk)} {C : FuncId → List AV → Id → LStore → Option Res} {π : Id} {base : Nat} {rs : List Res} {t' : List AV} {L' : LStore} :
    ∀ (os : List VOper) (i : Nat) (acc : List Res) (t : List AV) (L : LStore), evOps G C π base os i acc t L = some (rs, t', L') → Clean S L → Clean S L'
  | [], i, acc, t, L, h, hc => by
    simp only [evOps, Option.some.injEq, Prod.mk.injEq] at h
    obtain ⟨rfl, rfl, rfl⟩ := h
    exact hc
  | o :: os, i, acc, t, L, h, hc => by
    simp only [evOps] at h
    split at h
    · simp at h
    · exact evOps_clean os _ _ _ _ h hc
    · split at h
      · simp at h
      · exact evOps_clean os _ _ _ _ h (hc.app _)

theorem run_clean {S : List (Id × Blk)} : ∀ (m : Nat) (c : VCode) (π : Id) (s s' : LS) (e : VExit), run G X T m c π s = some (e, s') → Clean S s.L → Clean S s'.L
  | 0, _, _, _, _, _, h, _ => by simp [run] at h
  | m + 1, c, π, s, s', e, h, hc => by
    cases c with
    | skip => simp only [run, Option.some.injEq, Prod.mk.injEq] at h; obtain ⟨_, rfl⟩ := h; exact hc
    | ret => simp only [run, Option.some.injEq, Prod.mk.injEq] at h; obtain ⟨_, rfl⟩ := h; exact hc
    | exit i => simp only [run, Option.some.injEq, Prod.mk.injEq] at h; obtain ⟨_, rfl⟩ := h; exact hc
    | seq a b =>
      simp only [run] at h
      split at h
      · rename_i s1 h1
        exact run_clean m b π s1 s' e h (run_clean m a π s s1 _ h1 hc)
      · exact run_clean m a π s s' e h hc
    | cond c a b =>
      simp only [run] at h
      split at h
      · exact run_clean m a π s s' e h hc
      · exact run_clean m b π s s' e h hc
      · simp at h
    | block i c =>
      simp only [run] at h
      split at h
      · rename_i j s1 h1
        have := run_clean m c π s s1 _ h1 hc
        split at h <;> (simp only [Option.some.injEq, Prod.mk.injEq] at h; obtain ⟨_, rfl⟩ := h; exact this)
      · exact run_clean m c π s s' e h hc
    | loop c =>
      simp only [run] at h
      split at h
      · rename_i s1 h1
        exact run_clean m (.loop c) π s1 s' e h (run_clean m c π s s1 _ h1 hc)
      · exact run_clean m c π s s' e h hc
    | reg ps os =>
      simp only [run] at h
      split at h
      · simp at h
      · rename_i rs t L h1
        have := evOps_clean os _ _ _ _ h1 hc
        split at h
        · simp only [Option.some.injEq, Prod.mk.injEq] at h; obtain ⟨_, rfl⟩ := h; exact this
        · split at h
          · simp only [Option.some.injEq, Prod.mk.injEq] at h; obtain ⟨_, rfl⟩ := h; exact this
          · simp at h

open Classical in
/-- The updates of a call say what has become of its blocks. -/
theorem ups_spec {S : List (Id × Blk)} {L : LStore} (hc : Clean S L) (i : Id) : (Store.of S).app (ups S L) i = L.to i := by
  have app_append : ∀ (a b : List (Id × Option Blk)) (σ : Store), σ.app (a ++ b) = (σ.app a).app b := by
    intro a
    induction a with
    | nil => intro b σ; rfl
    | cons x a ih => intro b σ; simp only [List.cons_append, Store.app]; exact ih b _
  unfold ups
  rw [app_append]
  generalize hσ : (Store.of S).app ((S.filter fun x => (L.find x.1).isNone).map (fun x => (x.1, none))) = σ1
  have none_app : ∀ (l : List Id) (σ : Store), σ.app (l.map fun i => (i, none)) i = if i ∈ l then none else σ i := by
    intro l
    induction l with
    | nil => intro σ; simp [Store.app]
    | cons j l ih =>
      intro σ
      simp only [List.map_cons, Store.app, ih, Store.put]
      by_cases h1 : i ∈ l
      · simp [h1]
      · by_cases h2 : i = j <;> simp [h1, h2]
  have h1 : σ1 i = if (∃ b, (i, b) ∈ S) ∧ L.find i = none then none else S.lookup i := by
    rw [← hσ]
    have := none_app ((S.filter fun x => (L.find x.1).isNone).map (·.1)) (Store.of S)
    rw [List.map_map] at this
    have e : ((fun i => (i, (none : Option Blk))) ∘ fun x : Id × Blk => x.1) = fun x => (x.1, none) := rfl
    rw [e] at this
    rw [this]
    have e2 : (i ∈ ((S.filter fun x => (L.find x.1).isNone).map (·.1))) ↔ ((∃ b, (i, b) ∈ S) ∧ L.find i = none) := by
      simp only [List.mem_map, List.mem_filter, Option.isNone_iff_eq_none]
      constructor
      · rintro ⟨⟨j, b⟩, ⟨h1, h2⟩, rfl⟩; exact ⟨⟨b, h1⟩, h2⟩
      · rintro ⟨⟨b, hb⟩, h2⟩; exact ⟨(i, b), ⟨hb, h2⟩, rfl⟩
    by_cases h : (∃ b, (i, b) ∈ S) ∧ L.find i = none
    · rw [if_pos h, if_pos (e2.2 h)]
    · rw [if_neg h, if_neg fun hh => h (e2.1 hh)]; rfl
  clear hσ
  -- the written ones
  have key : ∀ (L0 : LStore) (σ : Store), (L0.map (·.1)).Nodup →
      σ.app ((L0.filter fun x => x.2.2).map fun x => (x.1, some x.2.1)) i = match L0.find i with
        | some b => if (i, b, true) ∈ L0 then some b else σ i
        | none => σ i := by
    intro L0
    induction L0 with
    | nil => intro σ _; rfl
    | cons x L0 ih =>
      intro σ hn
      obtain ⟨j, b, d⟩ := x
      simp only [List.map_cons, List.nodup_cons] at hn
      have hnot : ∀ b d, (j, b, d) ∉ L0 := fun b d hm => hn.1 (List.mem_map.2 ⟨_, hm, rfl⟩)
      have hfj : LStore.find L0 j = none := by
        cases h : LStore.find L0 j with
        | none => rfl
        | some c => obtain ⟨d, hd⟩ := find_mem h; exact absurd hd (hnot c d)
      cases d with
      | false =>
        simp only [Bool.false_eq_true, not_false_eq_true, List.filter_cons_of_neg]
        rw [ih σ hn.2]
        simp only [LStore.find]
        by_cases h : i = j
        · subst h
          rw [hfj]
          simp [hnot]
        · simp [h]
      | true =>
        simp only [List.filter_cons_of_pos, List.map_cons, Store.app]
        rw [ih _ hn.2]
        simp only [LStore.find]
        by_cases h : i = j
        · subst h
          rw [hfj]
          simp [Store.put]
        · simp [h, Store.put]
  rw [key L σ1 hc.2, h1]
  show _ = L.find i
  cases hf : L.find i with
  | none =>
    simp only [and_true]
    split
    · rfl
    · rename_i h
      cases hl : S.lookup i with
      | none => rfl
      | some b => exact absurd ⟨b, lookup_mem hl⟩ h
  | some b =>
    simp only [reduceCtorEq, and_false, if_false]
    split
    · rfl
    · rename_i h
      obtain ⟨d, hd⟩ := find_mem hf
      cases d with
      | true => exact absurd hd h
      | false => exact hc.1 i b hd

theorem lookup_nodup : ∀ {S : List (Id × Blk)} {x : Id × Blk}, (S.map (·.1)).Nodup → x ∈ S → S.lookup x.1 = some x.2
  | [], x, _, hx => by simp at hx
  | (j, c) :: S, x, hnd, hx => by
    simp only [List.map_cons, List.nodup_cons] at hnd
    rcases List.mem_cons.1 hx with rfl | hx
    · simp [List.lookup_cons]
    · have hne : x.1 ≠ j := fun e => hnd.1 (List.mem_map.2 ⟨x, hx, e⟩)
      rw [List.lookup_cons]
      have : (x.1 == j) = false := by simpa using hne
      rw [this]
      exact lookup_nodup hnd.2 hx

theorem evFunc_sound (hX : CallOk P G X) (hT : T.Of P) {R : VCode → Id → LS → Option (VExit × LS)}
    (hR : ∀ c π s e s', R c π s = some (e, s') → VW P G π c (fun e' s2 => e' = e ∧ s2 = s'.to) s.to) (hRc : ∀ S c π s e s', R c π s = some (e, s') → Clean S s.L → Clean S s'.L) :
    CallOk P G (evFunc X R T) := by
  intro f args p L r h
  unfold evFunc at h
  split at h
  · rename_i r' hr'; simp only [Option.some.injEq] at h; subst h; exact hX _ _ _ _ _ hr'
  split at h
  · simp at h
  · rename_i vf hvf
    obtain ⟨fn, hf, hc⟩ := Tab.of_find hT hvf
    simp only [] at h
    generalize hS : reach 1000 L (idsL args) [] = S at h
    have hSL : ∀ x ∈ S, L.to x.1 = some x.2 := by rw [← hS]; exact reach_sub 1000 _ _ (by simp)
    have hnd : (S.map (·.1)).Nodup := by
      rw [← hS]
      have : ∀ (n : Nat) (is : List Id) (S : List (Id × Blk)), (S.map (·.1)).Nodup → ((reach n L is S).map (·.1)).Nodup := by
        intro n
        induction n with
        | zero => intro is S h; exact h
        | succ n ih =>
          intro is S h
          cases is with
          | nil => simpa [reach] using h
          | cons i is =>
            simp only [reach]
            split
            · exact ih is S h
            · rename_i hl
              split
              · refine ih _ _ ?_
                simp only [List.map_cons, List.nodup_cons]
                refine ⟨fun hm => ?_, h⟩
                obtain ⟨x, hx, he⟩ := List.mem_map.1 hm
                rw [List.lookup_eq_none_iff] at hl
                have := hl x hx
                simp [he] at this
              · exact ih is S h
      exact this _ _ _ (by simp)
    have hc0 : Clean S (S.map fun x => (x.1, x.2, false)) := by
      refine ⟨fun i b hm => ?_, by simpa [List.map_map, Function.comp_def] using hnd⟩
      obtain ⟨x, hx, he⟩ := List.mem_map.1 hm
      simp only [Prod.mk.injEq, and_true] at he
      obtain ⟨rfl, rfl⟩ := he
      exact lookup_nodup hnd hx
    have hto : (LStore.to (S.map fun x => (x.1, x.2, false))) = Store.of S := funext fun i => find_init S i
    have fin : ∀ e s, (e = VExit.normal ∨ e = .ret) → R vf.body p ⟨args ++ List.replicate (vf.nt - args.length) (.tup []), S.map fun x => (x.1, x.2, false), 0⟩ = some (e, s) →
        (match outAV vf.results s.to with | some r0 => some ({ val := r0, rd := S.map (·.1), up := ups S (s.L.live (reach 1000 s.L (r0.ids ++ S.map (·.1)) [])) } : Res) | none => none) = some r →
        ∃ S, CallRel P G f args p S r ∧ (∀ x ∈ S, L.to x.1 = some x.2) ∧ ∀ x ∈ S, x.1 ∈ r.rd := by
      intro e s he hrun hout
      split at hout
      · rename_i r0 hr0
        simp only [Option.some.injEq] at hout
        refine ⟨S, CallRel.of_VW hf hc ?_, hSL, fun x hx => by rw [← hout]; exact List.mem_map.2 ⟨x, hx, rfl⟩⟩
        have hv := hR _ _ _ _ _ hrun
        have e0 : (LS.to ⟨args ++ List.replicate (vf.nt - args.length) (.tup []), S.map fun x => (x.1, x.2, false), 0⟩) = ⟨args ++ List.replicate (vf.nt - args.length) (.tup []), Store.of S, 0⟩ := by
          simp only [LS.to, hto]
        rw [e0] at hv
        refine hv.mono fun e' s2 hq => ?_
        obtain ⟨rfl, rfl⟩ := hq
        refine ⟨he, r0, hr0, Fin.same (by rw [← hout]) fun i => ?_⟩
        rw [← hout]
        have hcl := hRc S _ _ _ _ _ hrun hc0
        have h1 := ups_spec (hcl.live (reach 1000 s.L (r0.ids ++ S.map (·.1)) [])) i
        rw [h1]
        rcases LStore.live_find s.L (reach 1000 s.L (r0.ids ++ S.map (·.1)) []) i with h | h
        · exact .inl h
        · exact .inr h
      · simp at hout
    split at h
    · rename_i s hs; exact fin _ s (.inl rfl) hs h
    · rename_i s hs; exact fin _ s (.inr rfl) hs h
    · simp at h

theorem loop_sound {c : VCode} {π : Id} : ∀ (m : Nat), (∀ m' < m, ∀ s s' e, run G X T m' c π s = some (e, s') → VW P G π c (fun e' s2 => e' = e ∧ s2 = s'.to) s.to) →
    ∀ s s' e, run G X T m (.loop c) π s = some (e, s') → ∃ n, VRd P G π c (fun e' s2 => e' = e ∧ s2 = s'.to) n s.to
  | 0, _, _, _, _, h => by simp [run] at h
  | m + 1, hb, s, s', e, h => by
    simp only [run] at h
    split at h
    · rename_i s1 h1
      obtain ⟨n, hn⟩ := loop_sound m (fun m' hm => hb m' (by omega)) s1 s' e h
      refine ⟨n + 1, (hb m (by omega) s s1 _ h1).mono fun e' s2 hq => ?_⟩
      obtain ⟨rfl, rfl⟩ := hq
      exact hn
    · rename_i h1
      refine ⟨1, (hb m (by omega) s s' e h).mono fun e' s2 hq => ?_⟩
      obtain ⟨rfl, rfl⟩ := hq
      cases e' with
      | normal => exact absurd h (h1 _)
      | exit i => exact ⟨rfl, rfl⟩
      | ret => exact ⟨rfl, rfl⟩

theorem run_sound (hX : CallOk P G X) (hT : T.Of P) : ∀ (m : Nat) (c : VCode) (π : Id) (s s' : LS) (e : VExit), run G X T m c π s = some (e, s') → VW P G π c (fun e' s2 => e' = e ∧ s2 = s'.to) s.to
  | 0, _, _, _, _, _, h => by simp [run] at h
  | m + 1, c, π, s, s', e, h => by
    cases c with
    | skip => simp only [run, Option.some.injEq, Prod.mk.injEq] at h; obtain ⟨rfl, rfl⟩ := h; exact VW.skip ⟨rfl, rfl⟩
    | ret => simp only [run, Option.some.injEq, Prod.mk.injEq] at h; obtain ⟨rfl, rfl⟩ := h; exact VW.ret ⟨rfl, rfl⟩
    | exit i => simp only [run, Option.some.injEq, Prod.mk.injEq] at h; obtain ⟨rfl, rfl⟩ := h; exact VW.exit ⟨rfl, rfl⟩
    | seq a b =>
      simp only [run] at h
      refine VW.seq ?_
      split at h
      · rename_i s1 h1
        refine (run_sound hX hT m a π s s1 _ h1).mono fun e' s2 hq => ?_
        obtain ⟨rfl, rfl⟩ := hq
        exact run_sound hX hT m b π s1 s' e h
      · rename_i h1
        refine (run_sound hX hT m a π s s' e h).mono fun e' s2 hq => ?_
        obtain ⟨rfl, rfl⟩ := hq
        cases e' with
        | normal => exact absurd h (h1 _)
        | exit i => exact ⟨rfl, rfl⟩
        | ret => exact ⟨rfl, rfl⟩
    | cond c a b =>
      simp only [run] at h
      split at h
      · rename_i hb; exact VW.cond hb (by simpa using run_sound hX hT m a π s s' e h)
      · rename_i hb; exact VW.cond hb (by simpa using run_sound hX hT m b π s s' e h)
      · simp at h
    | block i c =>
      simp only [run] at h
      refine VW.block ?_
      split at h
      · rename_i j s1 h1
        refine (run_sound hX hT m c π s s1 _ h1).mono fun e' s2 hq => ?_
        obtain ⟨rfl, rfl⟩ := hq
        simp only []
        split at h
        · rename_i hj; simp only [Option.some.injEq, Prod.mk.injEq] at h; obtain ⟨rfl, rfl⟩ := h; simp [hj]
        · rename_i hj; simp only [Option.some.injEq, Prod.mk.injEq] at h; obtain ⟨rfl, rfl⟩ := h; simp [hj]
      · rename_i h1
        refine (run_sound hX hT m c π s s' e h).mono fun e' s2 hq => ?_
        obtain ⟨rfl, rfl⟩ := hq
        cases e' with
        | normal => exact ⟨rfl, rfl⟩
        | exit i => exact absurd h (h1 _ _)
        | ret => exact ⟨rfl, rfl⟩
    | loop c =>
      obtain ⟨n, hn⟩ := loop_sound (m + 1) (fun m' hm s s' e hr => run_sound hX hT m' c π s s' e hr) s s' e h
      exact VW.rounds n hn
    | reg ps os =>
      simp only [run] at h
      have hC : CallOk P G (evFunc X (run G X T m) T) := evFunc_sound hX hT (fun c π s e s' hr => run_sound hX hT m c π s s' e hr) (fun S c π s e s' hr => run_clean m c π s s' e hr)
      split at h
      · simp at h
      · rename_i rs t L h1
        cases ps with
        | none =>
          simp only [Option.some.injEq, Prod.mk.injEq] at h
          obtain ⟨rfl, rfl⟩ := h
          exact VW.seqReg (evOps_seq hC ⟨rfl, rfl⟩ os _ _ _ _ h1)
        | some ps =>
          simp only [] at h
          split at h
          · rename_i hap
            simp only [Option.some.injEq, Prod.mk.injEq] at h
            obtain ⟨rfl, rfl⟩ := h
            exact VW.parReg (evOps_par hC ⟨allApartB_spec hap, rfl, rfl⟩ os _ _ _ _ h1)
          · simp at h
  termination_by m => m

/-- A function that is run. -/
theorem call_run (hX : CallOk P G X) (hT : T.Of P) (m : Nat) {f : FuncId} {args : List AV} {p : Id} {L : LStore} {r : Res} (h : evFunc X (run G X T m) T f args p L = some r) :
    ∃ S, CallRel P G f args p S r ∧ (∀ x ∈ S, L.to x.1 = some x.2) ∧ ∀ x ∈ S, x.1 ∈ r.rd :=
  evFunc_sound hX hT (fun c π s e s' hr => run_sound hX hT m c π s s' e hr) (fun S c π s e s' hr => run_clean m c π s s' e hr) f args p L r h

end

end Go.VL
