/- The V-layer, part 4: code over trees, and how the model's code is compiled to it. -/
import Derived.Test.YtcomlgfjnjpebaaGreatDoorVL3
namespace Go.VL

structure VOper where
  dst : Option Nat
  op : VOp VArg
  guard : Option (Nat × Bool) := none

inductive VCode where
  | skip
  | reg (pairs : Option (List (Nat × Nat))) (ops : List VOper)
  | seq (a b : VCode)
  | cond (c : VArg) (a b : VCode)
  | block (id : Nat) (c : VCode)
  | loop (c : VCode)
  | exit (id : Nat)
  | ret

inductive VRes where
  | tmp (t : Nat)
  | cell (x : Nat) (agg : Bool) (n : Nat)

structure VFunc where
  nt : Nat
  results : List VRes
  body : VCode

def VOp.args {α : Type} : VOp α → List α
  | .mv x => [x]
  | .pick c a b => [c, a, b]
  | .box x => [x]
  | .build _ ps => ps.map fun p => p.2.2
  | .buildSl _ _ _ ps => ps.map fun p => p.2
  | .load _ _ x => [x]
  | .store _ x v => [x, v]
  | .nilck x => [x]
  | .bin _ _ x y => [x, y]
  | .un _ x => [x]
  | .toInt _ x => [x]
  | .idStr x => [x]
  | .bytesStr x => [x]
  | .idx x c => [x, c]
  | .ovl x y => [x, y]
  | .mkfn _ a c => a ++ c
  | .mksl _ _ _ l c => [l, c]
  | .slice _ x lo hi mx => x :: (lo.toList ++ hi.toList ++ mx.toList)
  | .sliceS x lo hi => x :: (lo.toList ++ hi.toList)
  | .faddr _ x => [x]
  | .field _ _ _ x => [x]
  | .iaddrS _ x i => [x, i]
  | .iaddrA _ _ x i => [x, i]
  | .indexS x i => [x, i]
  | .indexA _ _ _ x i => [x, i]
  | .extract x _ => [x]
  | .len _ x => [x]
  | .lenN _ x => [x]
  | .append _ _ s x => [s, x]
  | .min x y => [x, y]
  | .max x y => [x, y]
  | .cap x => [x]
  | .clear _ _ x => [x]
  | .copy _ d x => [d, x]
  | .appz _ _ _ s n => [s, n]
  | .bad => []
  | .call f as => f :: as

/-- Does it neither read, write nor make a block? -/
def VOp.pure {α : Type} : VOp α → Bool
  | .box _ | .buildSl .. | .load .. | .store .. | .mksl .. | .append .. | .appz .. | .clear .. | .copy .. | .bytesStr .. | .ovl .. | .slice .. | .cap .. | .call .. => false
  | _ => true

def VOp.isLoad {α : Type} : VOp α → Bool
  | .load .. | .bytesStr .. | .ovl .. | .slice .. | .cap .. => true
  | _ => false

def VArg.tmp? : VArg → Option Nat
  | .t n => some n
  | _ => none

/-- The slots that an operation names. -/
def VOper.names (o : VOper) : List Nat := o.op.args.filterMap VArg.tmp? ++ (o.guard.map (·.1)).toList

/-- The operations that come before each, as bits. -/
def masks : List (List Nat) → List Nat → List Nat
  | [], acc => acc
  | l :: r, acc => masks r (acc ++ [l.foldl (fun s i => s ||| 2 ^ i ||| acc.getD i 0) 0])

def allPairs (n : Nat) : List (Nat × Nat) := (List.range n).flatMap fun j => (List.range j).map fun i => (i, j)

/-- Two operations that name one slot, which one of them writes. -/
def clash (a b : VOper) : Bool :=
  (match a.dst with | some d => b.names.contains d || b.dst == some d | none => false) || (match b.dst with | some d => a.names.contains d | none => false)

def orderOk (ops : List VOper) (ons : List (List Nat)) : Bool :=
  let ms := masks ons []
  ons.length == ops.length &&
  ((List.range ops.length).all fun j => (ons.getD j []).all fun i => i < j) &&
  (allPairs ops.length).all fun p => match ops[p.1]?, ops[p.2]? with
    | some a, some b => !clash a b || (ms.getD p.2 0).testBit p.1
    | _, _ => true

def freePairs (ops : List VOper) (ons : List (List Nat)) : List (Nat × Nat) :=
  let ms := masks ons []
  (allPairs ops.length).filter fun p => match ops[p.1]?, ops[p.2]? with
    | some a, some b => !a.op.pure && !b.op.pure && !(a.op.isLoad && b.op.isLoad) && !(ms.getD p.2 0).testBit p.1
    | _, _ => false

def cOper (P : Program) (ops : Array Oper) (o : Oper) : Option VOper :=
  match cOp P o.op, o.guard with
  | some op, none => some { dst := o.dst, op }
  | some op, some (j, want) => match (ops[j]?).bind (·.dst) with
    | some d => some { dst := o.dst, op, guard := some (d, want) }
    | none => none
  | none, _ => none

def onsOf (o : Oper) : List Nat := (o.after.toList.filter (Region.binds .any)).map (·.on)

def cRegion (P : Program) (ops : Array Oper) (draw : Bool) : Option VCode :=
  match ops.toList.mapM (cOper P ops) with
  | none => none
  | some vs =>
    if draw then
      let ons := ops.toList.map onsOf
      if orderOk vs ons && P.follows .mixedOrders then some (.reg (some (freePairs vs ons)) vs) else none
    else some (.reg none vs)

def cCode (P : Program) : Code → Option VCode
  | .skip => some .skip
  | .region _ ops draw => cRegion P ops draw
  | .seq a b => match cCode P a, cCode P b with | some a, some b => some (.seq a b) | _, _ => none
  | .cond c a b => match cArg c, cCode P a, cCode P b with | some c, some a, some b => some (.cond c a b) | _, _, _ => none
  | .block id c => (cCode P c).map (.block id)
  | .loop c => (cCode P c).map .loop
  | .exit id => some (.exit id)
  | .ret => some .ret
  | _ => none

def cRes (P : Program) : ResultVar → Option VRes
  | .tmp t => some (.tmp t)
  | .cell a t => match isAggT P t, P.info? t with
    | some g, some i => if g = true ∨ i.size = 1 then some (.cell a g i.size) else none
    | _, _ => none

def cFunc (P : Program) (fn : Func) : Option VFunc :=
  if fn.name == "runtime.NumGoroutine" then none else
  match fn.body, fn.results.toList.mapM (cRes P) with
  | some c, some rs => (cCode P c).map fun b => { nt := fn.ntmps, results := rs, body := b }
  | _, _ => none

end Go.VL
