/- The V-layer, part 23: trees compared, and calls whose run is known. -/
import Derived.Test.YtcomlgfjnjpebaaGreatDoorVL21
namespace Go.VL

def fnB : Fn → Fn → Bool
  | .func a, .func b => a == b
  | _, _ => false
theorem fnB_eq : ∀ {a b : Fn}, fnB a b = true → a = b := by
  intro a b h
  cases a <;> cases b <;> simp [fnB] at h
  subst h; rfl

mutual
def avB : AV → AV → Bool
  | .bool a, .bool b => a == b
  | .int k n, .int k' n' => decide (k = k') && n == n'
  | .str a, .str b => a == b
  | .nilp, .nilp => true
  | .nilf, .nilf => true
  | .fn f a c, .fn f' a' c' => fnB f f' && avBL a a' && avBL c c'
  | .agg a, .agg b => avBL a b
  | .tup a, .tup b => avBL a b
  | .sl k a, .sl k' b => k == k' && avBL a b
  | .tsl k a, .tsl k' b => k == k' && avBL a b
  | .nils, .nils => true
  | .osl i k o l t, .osl i' k' o' l' t' => i == i' && k == k' && o == o' && l == l' && t == t'
  | .ref i e o, .ref i' e' o' => i == i' && e == e' && o == o'
  | .ep a o, .ep b o' => avBL a b && o == o'
  | .top, .top => true
  | .anyb, .anyb => true
  | .ige n, .ige m => n == m
  | _, _ => false
def avBL : List AV → List AV → Bool
  | [], [] => true
  | a :: as, b :: bs => avB a b && avBL as bs
  | _, _ => false
end

mutual
theorem avB_eq : ∀ {a b : AV}, avB a b = true → a = b
  | .bool a, b, h => by cases b <;> simp [avB] at h; subst h; rfl
  | .int k n, b, h => by cases b <;> simp [avB] at h; obtain ⟨rfl, rfl⟩ := h; rfl
  | .str a, b, h => by cases b <;> simp [avB] at h; subst h; rfl
  | .nilp, b, h => by cases b <;> simp [avB] at h; rfl
  | .nilf, b, h => by cases b <;> simp [avB] at h; rfl
  | .fn f a c, b, h => by
    cases b <;> simp [avB] at h
    obtain ⟨⟨h1, h2⟩, h3⟩ := h
    rw [fnB_eq h1, avBL_eq h2, avBL_eq h3]
  | .agg a, b, h => by cases b <;> simp [avB] at h; rw [avBL_eq h]
  | .tup a, b, h => by cases b <;> simp [avB] at h; rw [avBL_eq h]
  | .sl k a, b, h => by cases b <;> simp [avB] at h; obtain ⟨rfl, h⟩ := h; rw [avBL_eq h]
  | .tsl k a, b, h => by cases b <;> simp [avB] at h; obtain ⟨rfl, h⟩ := h; rw [avBL_eq h]
  | .nils, b, h => by cases b <;> simp [avB] at h; rfl
  | .osl i k o l t, b, h => by cases b <;> simp [avB] at h; obtain ⟨⟨⟨⟨rfl, rfl⟩, rfl⟩, rfl⟩, rfl⟩ := h; rfl
  | .ref i e o, b, h => by cases b <;> simp [avB] at h; obtain ⟨⟨rfl, rfl⟩, rfl⟩ := h; rfl
  | .ep a o, b, h => by cases b <;> simp [avB] at h; obtain ⟨h, rfl⟩ := h; rw [avBL_eq h]
  | .top, b, h => by cases b <;> simp [avB] at h; rfl
  | .anyb, b, h => by cases b <;> simp [avB] at h; rfl
  | .ige n, b, h => by cases b <;> simp [avB] at h; subst h; rfl
theorem avBL_eq : ∀ {a b : List AV}, avBL a b = true → a = b
  | [], [], _ => rfl
  | x :: xs, y :: ys, h => by simp only [avBL, Bool.and_eq_true] at h; rw [avB_eq h.1, avBL_eq h.2]
  | [], _ :: _, h => by simp [avBL] at h
  | _ :: _, [], h => by simp [avBL] at h
end

def blkB (a b : Blk) : Bool := avBL a.els b.els && a.k == b.k && a.fr == b.fr
theorem blkB_eq {a b : Blk} (h : blkB a b = true) : a = b := by
  obtain ⟨x, y, z⟩ := a; obtain ⟨x', y', z'⟩ := b
  simp only [blkB, Bool.and_eq_true, beq_iff_eq] at h
  obtain ⟨⟨h1, rfl⟩, rfl⟩ := h
  rw [avBL_eq h1]
def stB : List (Id × Blk) → List (Id × Blk) → Bool
  | [], [] => true
  | (i, a) :: as, (j, b) :: bs => i == j && blkB a b && stB as bs
  | _, _ => false
theorem stB_eq : ∀ {a b : List (Id × Blk)}, stB a b = true → a = b
  | [], [], _ => rfl
  | (i, x) :: xs, (j, y) :: ys, h => by
    simp only [stB, Bool.and_eq_true, beq_iff_eq] at h
    obtain ⟨⟨rfl, h1⟩, h2⟩ := h
    rw [blkB_eq h1, stB_eq h2]
  | [], _ :: _, h => by simp [stB] at h
  | _ :: _, [], h => by simp [stB] at h

/-- A call whose run is known: from the blocks S. -/
structure Memo where
  f : FuncId
  p : Id
  args : List AV
  S : List (Id × Blk)
  r : Res

def askMemo (ms : List Memo) (f : FuncId) (args : List AV) (p : Id) (L : LStore) : Option Res :=
  match ms with
  | [] => none
  | m :: ms => if m.f = f ∧ m.p = p ∧ avBL m.args args = true ∧ stB m.S (reach 1000 L (idsL args) []) = true then some m.r else askMemo ms f args p L

/-- The calls that are known hold. -/
def MemoOk (P : Program) (G : Nat → Option (List AV)) (m : Memo) : Prop := ∃ S, CallRel P G m.f m.args m.p S m.r ∧ (∀ x ∈ S, Store.of m.S x.1 = some x.2) ∧ ∀ x ∈ S, x.1 ∈ m.r.rd

theorem askMemo_ok {P : Program} {G : Nat → Option (List AV)} : ∀ {ms : List Memo}, (∀ m ∈ ms, MemoOk P G m) → CallOk P G (askMemo ms)
  | [], _, _, _, _, _, _, h => by simp [askMemo] at h
  | m :: ms, hm, f, args, p, L, r, h => by
    simp only [askMemo] at h
    split at h
    · rename_i hh
      obtain ⟨rfl, rfl, h1, h2⟩ := hh
      simp only [Option.some.injEq] at h; subst h
      have e1 := avBL_eq h1; subst e1
      have e2 := stB_eq h2
      obtain ⟨S, h3, h4, h5⟩ := hm m (by simp)
      exact ⟨S, h3, fun x hx => by have := lookup_mem (h4 x hx); rw [e2] at this; exact reach_sub 1000 _ _ (by simp) _ this, h5⟩
    · exact askMemo_ok (fun x hx => hm x (List.mem_cons_of_mem _ hx)) f args p L r h

def upB : List (Id × Option Blk) → List (Id × Option Blk) → Bool
  | [], [] => true
  | (i, some a) :: as, (j, some b) :: bs => i == j && blkB a b && upB as bs
  | (i, none) :: as, (j, none) :: bs => i == j && upB as bs
  | _, _ => false
theorem upB_eq : ∀ {a b : List (Id × Option Blk)}, upB a b = true → a = b
  | [], [], _ => rfl
  | (i, some x) :: xs, (j, some y) :: ys, h => by
    simp only [upB, Bool.and_eq_true, beq_iff_eq] at h
    obtain ⟨⟨rfl, h1⟩, h2⟩ := h
    rw [blkB_eq h1, upB_eq h2]
  | (i, none) :: xs, (j, none) :: ys, h => by
    simp only [upB, Bool.and_eq_true, beq_iff_eq] at h
    obtain ⟨rfl, h2⟩ := h
    rw [upB_eq h2]
  | (_, some _) :: _, (_, none) :: _, h => by simp [upB] at h
  | (_, none) :: _, (_, some _) :: _, h => by simp [upB] at h
  | [], _ :: _, h => by simp [upB] at h
  | (_, some _) :: _, [], h => by simp [upB] at h
  | (_, none) :: _, [], h => by simp [upB] at h

def resB (o : Option Res) (r : Res) : Bool := match o with
  | some x => avB x.val r.val && x.rd == r.rd && upB x.up r.up
  | none => false
theorem resB_eq {o : Option Res} {r : Res} (h : resB o r = true) : o = some r := by
  unfold resB at h
  split at h
  · rename_i x
    obtain ⟨a, b, c⟩ := x; obtain ⟨a', b', c'⟩ := r
    simp only [Bool.and_eq_true, beq_iff_eq] at h
    obtain ⟨⟨h1, rfl⟩, h3⟩ := h
    rw [avB_eq h1, upB_eq h3]
  · simp at h

/-- A call that has been run is a known one. -/
theorem MemoOk.run {P : Program} {G : Nat → Option (List AV)} {X : FuncId → List AV → Id → LStore → Option Res} (hX : CallOk P G X) {T : Tab} (hT : T.Of P) (n : Nat) (m : Memo)
    (h : resB (evFunc X (run G X T n) T m.f m.args m.p (m.S.map fun x => (x.1, x.2, false))) m.r = true) : MemoOk P G m := by
  obtain ⟨S, h1, h2, h3⟩ := call_run hX hT n (resB_eq h)
  exact ⟨S, h1, fun x hx => by have := h2 x hx; rwa [show LStore.to (m.S.map fun x => (x.1, x.2, false)) = Store.of m.S from funext fun i => find_init m.S i] at this, h3⟩

theorem CallOk.or {P : Program} {G : Nat → Option (List AV)} {A B : FuncId → List AV → Id → LStore → Option Res} (ha : CallOk P G A) (hb : CallOk P G B) :
    CallOk P G fun f args p L => match A f args p L with | some r => some r | none => B f args p L := by
  intro f args p L r h
  simp only [] at h
  split at h
  · rename_i r' hr; simp only [Option.some.injEq] at h; subst h; exact ha _ _ _ _ _ hr
  · exact hb _ _ _ _ _ h

end Go.VL
