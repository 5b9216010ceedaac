/- The V-layer, part 3: the operations over trees, and how the model's operations are compiled to them. -/
import Derived.Test.YtcomlgfjnjpebaaGreatDoorVL2
namespace Go.VL

/-- An operand. -/
inductive VArg where
  | t (n : Nat)
  | c (a : AV)
  | g (n : Nat)
  | f (n : Nat)

def VArg.ev (G : Nat → Option (List AV)) (t : List AV) : VArg → AV
  | .t n => t.getD n (.tup [])
  | .c a => a
  | .g n => match G n with | some cs => .ep cs 0 | none => .top
  | .f n => .fn (.func n) [] []

/-- What a comparison is over. -/
inductive Sh where
  | int | str | bool | ptr | slice | func
  deriving DecidableEq

/-- An operation; α: what stands for an operand. -/
inductive VOp (α : Type) where
  | mv (x : α)
  | pick (c a b : α)
  | box (x : α)
  | build (zero : List AV) (parts : List (Nat × Nat × α))
  | buildSl (k len : Nat) (zero : AV) (parts : List (Nat × α))
  | load (agg : Bool) (n : Nat) (x : α)
  | store (n : Nat) (x v : α)
  | nilck (x : α)
  | bin (op : BinOp) (sh : Sh) (x y : α)
  | un (op : UnOp) (x : α)
  | toInt (k : IntKind) (x : α)
  | idStr (x : α)
  | bytesStr (x : α)
  | idx (x c : α)
  | ovl (x y : α)
  | mkfn (fn : Fn) (first cap : List α)
  | mksl (k bytes : Nat) (zero : AV) (len cap : α)
  | slice (k : Nat) (x : α) (lo hi mx : Option α)
  | sliceS (x : α) (lo hi : Option α)
  | faddr (off : Nat) (x : α)
  | field (agg : Bool) (off n : Nat) (x : α)
  | iaddrS (k : Nat) (x i : α)
  | iaddrA (n k : Nat) (x i : α)
  | indexS (x i : α)
  | indexA (agg : Bool) (n k : Nat) (x i : α)
  | extract (x : α) (i : Nat)
  | len (str : Bool) (x : α)
  | lenN (n : Nat) (x : α)
  | append (k bytes : Nat) (s x : α)
  | min (x y : α)
  | max (x y : α)
  | cap (x : α)
  | clear (k : Nat) (zero : AV) (x : α)
  | copy (k : Nat) (d x : α)
  | appz (k bytes : Nat) (zero : AV) (s n : α)
  | bad
  | call (f : α) (args : List α)

def VOp.map {α β : Type} (g : α → β) : VOp α → VOp β
  | .mv x => .mv (g x)
  | .pick c a b => .pick (g c) (g a) (g b)
  | .box x => .box (g x)
  | .build z ps => .build z (ps.map fun p => (p.1, p.2.1, g p.2.2))
  | .buildSl k n z ps => .buildSl k n z (ps.map fun p => (p.1, g p.2))
  | .load a n x => .load a n (g x)
  | .store n x v => .store n (g x) (g v)
  | .nilck x => .nilck (g x)
  | .bin op sh x y => .bin op sh (g x) (g y)
  | .un op x => .un op (g x)
  | .toInt k x => .toInt k (g x)
  | .idStr x => .idStr (g x)
  | .bytesStr x => .bytesStr (g x)
  | .idx x c => .idx (g x) (g c)
  | .ovl x y => .ovl (g x) (g y)
  | .mkfn fn a c => .mkfn fn (a.map g) (c.map g)
  | .mksl k b z l c => .mksl k b z (g l) (g c)
  | .slice k x lo hi mx => .slice k (g x) (lo.map g) (hi.map g) (mx.map g)
  | .sliceS x lo hi => .sliceS (g x) (lo.map g) (hi.map g)
  | .faddr o x => .faddr o (g x)
  | .field a o n x => .field a o n (g x)
  | .iaddrS k x i => .iaddrS k (g x) (g i)
  | .iaddrA n k x i => .iaddrA n k (g x) (g i)
  | .indexS x i => .indexS (g x) (g i)
  | .indexA a n k x i => .indexA a n k (g x) (g i)
  | .extract x i => .extract (g x) i
  | .len b x => .len b (g x)
  | .lenN n x => .lenN n (g x)
  | .append k b s x => .append k b (g s) (g x)
  | .min x y => .min (g x) (g y)
  | .max x y => .max (g x) (g y)
  | .cap x => .cap (g x)
  | .clear k z x => .clear k z (g x)
  | .copy k d x => .copy k (g d) (g x)
  | .appz k b z s n => .appz k b z (g s) (g n)
  | .bad => .bad
  | .call f as => .call (g f) (as.map g)

/-- What an operation comes to: its value, the blocks that it reads, the blocks that it writes or makes. -/
structure Res where
  val : AV
  rd : List Id := []
  up : List (Id × Option Blk) := []

def Store.app (σ : Store) : List (Id × Option Blk) → Store
  | [] => σ
  | (i, b) :: r => (σ.put i b).app r

/-! ### What the operations compute -/

def bitsOf (op : BinOp) (k : IntKind) (x y : Int) : Option Int :=
  let a := BitVec.ofInt k.bits x
  let b := BitVec.ofInt k.bits y
  match op with
  | .and => some (k.wrap (a &&& b).toNat)
  | .or => some (k.wrap (a ||| b).toNat)
  | .xor => some (k.wrap (a ^^^ b).toNat)
  | .andNot => some (k.wrap (a &&& ~~~b).toNat)
  | _ => none

def vint (op : BinOp) (k : IntKind) (a b : Int) : Option AV :=
  match op with
  | .add => some (.int k (k.wrap (a + b)))
  | .sub => some (.int k (k.wrap (a - b)))
  | .mul => some (.int k (k.wrap (a * b)))
  | .quo => if b = 0 then none else some (.int k (k.wrap (a.tdiv b)))
  | .rem => if b = 0 then none else some (.int k (a.tmod b))
  | .and | .or | .xor | .andNot => (bitsOf op k a b).map (.int k)
  | .eql => some (.bool (a == b))
  | .neq => some (.bool (a != b))
  | .lss => some (.bool (a < b))
  | .leq => some (.bool (a ≤ b))
  | .gtr => some (.bool (a > b))
  | .geq => some (.bool (a ≥ b))
  | .shl => if b < 0 then none else some (.int k (k.wrap (a * 2 ^ (min b.toNat k.bits))))
  | .shr => if b < 0 then none else some (.int k (a.fdiv (2 ^ (min b.toNat k.bits))))

def vstr (op : BinOp) (x y : List UInt8) : Option AV :=
  match op with
  | .add => if x.length + y.length ≤ maxLen then some (.str (x ++ y)) else none
  | .eql => some (.bool (x == y))
  | .neq => some (.bool !(x == y))
  | .lss => some (.bool (Op.bytesLess x y))
  | .leq => some (.bool (Op.bytesLess x y || x == y))
  | .gtr => some (.bool !(Op.bytesLess x y || x == y))
  | .geq => some (.bool !(Op.bytesLess x y))
  | _ => none

def vbin (op : BinOp) (sh : Sh) (x y : AV) : Option AV :=
  match sh, x, y with
  | .int, .int k a, .int k' b => if op = .shl ∨ op = .shr ∨ k = k' then vint op k a b else none
  | .str, .str a, .str b => vstr op a b
  | .bool, .bool a, .bool b => match op with
    | .eql => some (.bool (a == b))
    | .neq => some (.bool !(a == b))
    | _ => none
  | .ptr, .nilp, .nilp => match op with | .eql => some (.bool true) | .neq => some (.bool false) | _ => none
  | .ptr, .ref _ _ _, .nilp | .ptr, .nilp, .ref _ _ _ | .ptr, .ep _ _, .nilp | .ptr, .nilp, .ep _ _ =>
    match op with | .eql => some (.bool false) | .neq => some (.bool true) | _ => none
  | .slice, .nils, .nils => match op with | .eql => some (.bool true) | .neq => some (.bool false) | _ => none
  | .slice, .osl _ _ _ _ _, .nils | .slice, .nils, .osl _ _ _ _ _ =>
    match op with | .eql => some (.bool false) | .neq => some (.bool true) | _ => none
  | .slice, .sl _ (_ :: _), .nils | .slice, .tsl _ (_ :: _), .nils =>
    match op with | .eql => some (.bool false) | .neq => some (.bool true) | _ => none
  | .func, .nilf, .nilf => match op with | .eql => some (.bool true) | .neq => some (.bool false) | _ => none
  | .func, .fn _ _ _, .nilf | .func, .nilf, .fn _ _ _ => match op with | .eql => some (.bool false) | .neq => some (.bool true) | _ => none
  | _, _, _ => none

/-- A comparison with nil that is not settled. -/
def vnilq (op : BinOp) (sh : Sh) (x y : AV) : Option AV :=
  match sh, x, y with
  | .slice, .sl _ [], .nils | .slice, .tsl _ [], .nils => match op with | .eql | .neq => some .anyb | _ => none
  | .int, .int .i64 a, .ige n => match op with | .gtr => if a ≤ n then some (.bool false) else none | _ => none
  | _, _, _ => none

def vbinq (op : BinOp) (sh : Sh) (x y : AV) : Option AV :=
  match vbin op sh x y with
  | some c => some c
  | none => vnilq op sh x y

def vun (op : UnOp) (x : AV) : Option AV :=
  match op, x with
  | .neg, .int k n => some (.int k (k.wrap (0 - n)))
  | .xor, .int k n => (bitsOf .xor k (if k.signed then -1 else k.max) n).map (.int k)
  | .not, .bool b => some (.bool !b)
  | _, _ => none

/-- n cells of a row of cells, as a value. -/
def part (agg : Bool) (cs : List AV) (o n : Nat) : Option AV :=
  if o + n ≤ cs.length then
    if agg then some (.agg ((cs.drop o).take n)) else if n = 1 then cs[o]? else none
  else none

def vload (σ : Store) (agg : Bool) (n : Nat) : AV → Option Res
  | .ref id e o => match σ id with
    | some bk => match bk.els[e]? with
      | some el => (part agg el.cells o n).map fun v => { val := v, rd := [id] }
      | none => none
    | none => none
  | .ep cs o => (part agg cs o n).map fun v => { val := v }
  | _ => none

def vstore (σ : Store) (n : Nat) (x v : AV) : Option Res :=
  match x with
  | .ref id e o => match σ id with
    | some bk => match bk.els[e]? with
      | some el =>
        if bk.fr = false ∧ v.cells.length = n ∧ o + n ≤ el.size ∧ v.cells.all AV.one = true then
          some { val := .tup [], rd := [id], up := [(id, some { bk with els := bk.els.set e (el.upd o v.cells) })] }
        else none
      | none => none
    | none => none
  | _ => none

def vfill (cs : List AV) : List (Nat × Nat × AV) → Option (List AV)
  | [] => some cs
  | (o, n, x) :: r => if x.cells.length = n ∧ o + n ≤ cs.length ∧ x.cells.all AV.one = true then vfill (cs.take o ++ x.cells ++ cs.drop (o + n)) r else none

def vfillEls (k : Nat) (es : List AV) : List (Nat × AV) → Option (List AV)
  | [] => some es
  | (i, x) :: r => if x.size = k ∧ i < es.length ∧ x.cells.all AV.one = true then vfillEls k (es.set i x) r else none

/-- The elements of what is appended, and the blocks read. -/
def elemsOf (σ : Store) (k : Nat) : AV → Option (List AV × List Id)
  | .nils => some ([], [])
  | .sl k' es | .tsl k' es => if k' = k then some (es, []) else none
  | .osl id k' off len _ => match σ id with
    | some bk => if k' = k ∧ bk.k = k ∧ off + len ≤ bk.els.length then some ((bk.els.drop off).take len, [id]) else none
    | none => none
  | _ => none

def vappend (σ : Store) (p : Id) (k bytes : Nat) (s x : AV) : Option Res :=
  match elemsOf σ k x with
  | none => none
  | some (ys, rd) =>
    if ys.isEmpty then
      match s with
      | .nils | .tsl _ _ | .osl _ _ _ _ _ => some { val := s, rd }
      | _ => none
    else match s with
      | .nils => if ys.length * bytes ≤ 140737488355328 ∧ ys.length ≤ maxLen ∧ (ys.all fun e => e.cells.all AV.one) = true then
          some { val := .osl p k 0 ys.length false, rd, up := [(p, some ⟨ys, k, false⟩)] } else none
      | .tsl k' es => if k' = k ∧ (es.length + ys.length) * bytes ≤ 140737488355328 ∧ es.length + ys.length ≤ maxLen ∧ ((es ++ ys).all fun e => e.cells.all AV.one) = true then
          some { val := .osl p k 0 (es.length + ys.length) false, rd, up := [(p, some ⟨es ++ ys, k, false⟩)] } else none
      | .osl id k' off len tight => match σ id with
        | some bk =>
          if k' = k ∧ bk.k = k ∧ off = 0 ∧ len ≤ bk.els.length ∧ (len + ys.length) * bytes ≤ 140737488355328 ∧ len + ys.length ≤ maxLen ∧ (ys.all fun e => e.cells.all AV.one) = true then
            if tight then
              if (bk.els.all fun e => e.cells.all AV.one) = true then
                some { val := .osl p k 0 (len + ys.length) false, rd := id :: rd, up := [(p, some ⟨bk.els.take len ++ ys, k, false⟩)] }
              else none
            else if len = bk.els.length ∧ bk.fr = false ∧ (bk.els.all fun e => e.cells.all AV.one) = true then
              some { val := .osl p k 0 (len + ys.length) false, rd := id :: rd, up := [(id, none), (p, some ⟨bk.els ++ ys, k, false⟩)] }
            else if len + ys.length ≤ bk.els.length ∧ bk.fr = false then
              some { val := .osl id k 0 (len + ys.length) false, rd := id :: rd, up := [(id, some { bk with els := bk.els.take len ++ ys ++ bk.els.drop (len + ys.length) })] }
            else none
          else none
        | none => none
      | _ => none

/-- A bound of a slice: between 0 and most. -/
def vbound (d most : Nat) : Option AV → Option Nat
  | none => some d
  | some (.int _ i) => if 0 ≤ i ∧ i ≤ most then some i.toNat else none
  | some _ => none

def vbounds (len : Nat) (lo hi : Option AV) : Option (Nat × Nat) :=
  match vbound len len hi with
  | none => none
  | some h => match vbound 0 h lo with
    | none => none
    | some l => some (l, h)

/-- Does the third bound stand, at h? -/
def tightAt (mx : Option AV) (h : Nat) : Bool := match mx with
  | some (.int _ m) => m == (h : Int)
  | _ => false

def vslice (k : Nat) (x : AV) (lo hi mx : Option AV) : Option AV :=
  match x with
  | .nils => match vbounds 0 lo hi with
    | some _ => if mx.isNone = true ∨ tightAt mx 0 = true then some .nils else none
    | none => none
  | .sl k' es => match vbounds es.length lo hi with
    | some (l, h) => if k' = k then
        if mx.isNone then some (.sl k ((es.take h).drop l)) else if tightAt mx h then some (.tsl k ((es.take h).drop l)) else none
      else none
    | none => none
  | .tsl k' es => match vbounds es.length lo hi with
    | some (l, h) => if k' = k ∧ (mx.isNone = true ∨ tightAt mx h = true) then
        if mx.isSome = true ∨ h = es.length then some (.tsl k ((es.take h).drop l)) else some (.sl k ((es.take h).drop l))
      else none
    | none => none
  | .osl id k' off len t => match vbounds len lo hi with
    | some (l, h) =>
      if k' = k then
        if mx.isNone then
          if t = false ∨ h = len then
            if l = 0 then some (.osl id k off h t) else if l = h then some (.sl k []) else some (.osl id k (off + l) (h - l) t)
          else none
        else if tightAt mx h = true ∧ l = 0 then some (.osl id k off h true) else none
      else none
    | none => none
  | _ => none

def vsliceS (x : AV) (lo hi : Option AV) : Option AV :=
  match x with
  | .str s => match vbounds s.length lo hi with
    | some (l, h) => some (.str ((s.take h).drop l))
    | none => none
  | _ => none

def viaddrS (k : Nat) (x i : AV) : Option AV :=
  match i with
  | .int _ i => match x with
    | .sl k' es | .tsl k' es => if k' = k ∧ 0 ≤ i then (es[i.toNat]?).map fun e => .ep e.cells 0 else none
    | .osl id k' off len _ => if k' = k ∧ 0 ≤ i ∧ i < len then some (.ref id (off + i.toNat) 0) else none
    | _ => none
  | _ => none

def viaddrA (n k : Nat) (x i : AV) : Option AV :=
  match i with
  | .int _ i => if 0 ≤ i ∧ i < n then
      match x with
      | .ref id e o => some (.ref id e (o + i.toNat * k))
      | .ep cs o => some (.ep cs (o + i.toNat * k))
      | _ => none
    else none
  | _ => none

def vmksl (p : Id) (k bytes : Nat) (zero len cap : AV) : Option Res :=
  match len, cap with
  | .int _ l, .int _ c =>
    if 0 ≤ l ∧ l ≤ c ∧ c * bytes ≤ 140737488355328 ∧ c ≤ maxLen ∧ zero.size = k ∧ zero.cells.all AV.one = true then
      some { val := .osl p k 0 l.toNat false, up := [(p, some ⟨List.replicate l.toNat zero, k, false⟩)] }
    else none
  | _, _ => none

def vlen : Bool → AV → Option AV
  | true, .str s => some (.int .i64 s.length)
  | false, .nils => some (.int .i64 0)
  | false, .sl _ es => some (.int .i64 es.length)
  | false, .tsl _ es => some (.int .i64 es.length)
  | false, .osl _ _ _ len _ => some (.int .i64 len)
  | _, _ => none

def vcap : AV → Option AV
  | .nils => some (.int .i64 0)
  | .tsl _ es => some (.int .i64 es.length)
  | .osl _ _ _ len true => some (.int .i64 len)
  | _ => none

/-- Elements are written over. -/
def vover (σ : Store) (id : Id) (off : Nat) (k : Nat) (news : List AV) (v : AV) (rd : List Id) : Option Res :=
  match σ id with
  | some bk => if bk.k = k ∧ off + news.length ≤ bk.els.length ∧ bk.fr = false ∧ (news.all fun e => e.cells.all AV.one) = true then
      some { val := v, rd := id :: rd, up := [(id, some { bk with els := bk.els.take off ++ news ++ bk.els.drop (off + news.length) })] } else none
  | none => none

def vclear (σ : Store) (k : Nat) (zero : AV) (x : AV) : Option Res :=
  match x with
  | .nils => some { val := .tup [] }
  | .osl id k' off len _ => if len = 0 then some { val := .tup [] } else if k' = k ∧ zero.size = k then vover σ id off k (List.replicate len zero) (.tup []) [] else none
  | _ => none

def vcopy (σ : Store) (k : Nat) (d x : AV) : Option Res :=
  match elemsOf σ k x with
  | none => none
  | some (ys, rd) => match d with
    | .nils => some { val := .int .i64 0, rd }
    | .osl id k' off len _ =>
      if (ys.take len).isEmpty then some { val := .int .i64 0, rd }
      else if k' = k then vover σ id off k (ys.take len) (.int .i64 (ys.take len).length) rd else none
    | _ => none

/-- Zeros are appended to nil. -/
def vappz (p : Id) (k bytes : Nat) (zero s n : AV) : Option Res :=
  match s, n with
  | .nils, .int _ n => if 0 < n ∧ n * bytes ≤ 140737488355328 ∧ n ≤ maxLen ∧ zero.size = k ∧ zero.cells.all AV.one = true then
      some { val := .osl p k 0 n.toNat false, up := [(p, some ⟨List.replicate n.toNat zero, k, false⟩)] } else none
  | _, _ => none

/-- The bytes of a row of integers. -/
def bytesOf : List AV → Option (List UInt8)
  | [] => some []
  | .int .u8 n :: r => (bytesOf r).map (UInt8.ofNat n.toNat :: ·)
  | _ :: _ => none

def vbytesStr (σ : Store) (x : AV) : Option Res :=
  match elemsOf σ 1 x with
  | some (ys, rd) => (bytesOf ys).map fun l => { val := .str l, rd }
  | none => none

def noIds (v : Option AV) : Option Res := v.map fun v => { val := v }

/-- The place of the first byte of that kind, or -1. -/
def idxByte : List UInt8 → UInt8 → Int
  | [], _ => -1
  | b :: l, c => if b == c then 0 else if idxByte l c == -1 then -1 else idxByte l c + 1

def vidx : AV → AV → Option AV
  | .str s, .int .u8 c => some (.int .i64 (idxByte s c.toNat.toUInt8))
  | _, _ => none

/-- The length of a slice of elements of k cells. -/
def lenAV (k : Nat) : AV → Option Nat
  | .nils => some 0
  | .sl k' es | .tsl k' es => if k' = k then some es.length else none
  | .osl _ k' _ len _ => if k' = k then some len else none
  | _ => none

/-- A slice past its length, into the room that is known. -/
def vsliceR (σ : Store) (k : Nat) (x : AV) (lo hi mx : Option AV) : Option AV → Option Res
  | some v => noIds (some v)
  | none => match x, hi, mx with
    | .osl id k' off _ false, some h, none => match σ id with
      | some bk => if off ≤ bk.els.length ∧ bk.k = k then (vslice k (.osl id k' off (bk.els.length - off) false) lo (some h) none).map fun v => { val := v, rd := [id] } else none
      | none => none
    | x, some h, some (.int _ m) => match lenAV k x with
      | some n => match vbounds n lo (some h) with
        | some (_, r) => if (r : Int) ≤ m ∧ m ≤ n then some { val := .top } else none
        | none => none
      | none => none
    | _, _, _ => none

def vcapR (σ : Store) (x : AV) : Option AV → Option Res
  | some v => noIds (some v)
  | none => match x with
    | .osl id _ off _ false => match σ id with
      | some bk => if off ≤ bk.els.length then some { val := .ige (bk.els.length - off), rd := [id] } else none
      | none => none
    | _ => none

/-- Do two slices of two blocks of the frame's own lie over one another? -/
def vovl (σ : Store) (x y : AV) : Option Res :=
  match x, y with
  | .osl i _ _ _ _, .osl j _ _ _ _ => if i = j then none else match σ i, σ j with
    | some _, some b => if 0 < b.k ∧ 0 < b.els.length then some { val := .bool false, rd := [i, j] } else none
    | _, _ => none
  | _, _ => none

/-- What an operation other than a call comes to; p: the first half of the names of the blocks that it makes. -/
def vop (σ : Store) (p : Id) : VOp AV → Option Res
  | .mv x => noIds (some x)
  | .pick c a b => match c with | .bool c => noIds (some (if c then a else b)) | _ => none
  | .box x => if x.cells.all AV.one = true then some { val := .ref p 0 0, up := [(p, some ⟨[x], x.size, false⟩)] } else none
  | .build z ps => noIds ((vfill z ps).map .agg)
  | .buildSl k n z ps => match vfillEls k (List.replicate n z) ps with
    | some es => if z.size = k ∧ z.cells.all AV.one = true then some { val := .osl p k 0 n false, up := [(p, some ⟨es, k, false⟩)] } else none
    | none => none
  | .load a n x => vload σ a n x
  | .store n x v => vstore σ n x v
  | .nilck x => match x with | .ref _ _ _ | .ep _ _ => noIds (some x) | .fn (.func _) _ _ => noIds (some x) | _ => none
  | .bin op sh x y => noIds (vbinq op sh x y)
  | .un op x => noIds (vun op x)
  | .toInt k x => match x with | .int _ n => noIds (some (.int k (k.wrap n))) | _ => none
  | .idStr x => match x with | .str _ => noIds (some x) | _ => none
  | .bytesStr x => vbytesStr σ x
  | .idx x c => noIds (vidx x c)
  | .ovl x y => vovl σ x y
  | .mkfn fn a c => noIds (some (.fn fn a c))
  | .mksl k b z l c => vmksl p k b z l c
  | .slice k x lo hi mx => vsliceR σ k x lo hi mx (vslice k x lo hi mx)
  | .sliceS x lo hi => noIds (vsliceS x lo hi)
  | .faddr o x => match x with
    | .ref id e q => noIds (some (.ref id e (q + o)))
    | .ep cs q => noIds (some (.ep cs (q + o)))
    | _ => none
  | .field a o n x => match x with | .agg cs => noIds (part a cs o n) | _ => none
  | .iaddrS k x i => noIds (viaddrS k x i)
  | .iaddrA n k x i => noIds (viaddrA n k x i)
  | .indexS x i => match x, i with
    | .str s, .int _ i => if 0 ≤ i then noIds ((s[i.toNat]?).map fun b => .int .u8 b.toNat) else none
    | _, _ => none
  | .indexA a n k x i => match x, i with
    | .agg cs, .int _ i => if 0 ≤ i ∧ i < n then noIds (part a cs (i.toNat * k) k) else none
    | _, _ => none
  | .extract x i => match x with | .tup vs => noIds vs[i]? | _ => none
  | .len b x => noIds (vlen b x)
  | .lenN n _ => noIds (some (.int .i64 n))
  | .append k b s x => vappend σ p k b s x
  | .min x y => match x, y with | .int k a, .int _ b => noIds (some (.int k (if b < a then b else a))) | _, _ => none
  | .max x y => match x, y with | .int k a, .int _ b => noIds (some (.int k (if b > a then b else a))) | _, _ => none
  | .cap x => vcapR σ x (vcap x)
  | .clear k z x => vclear σ k z x
  | .copy k d x => vcopy σ k d x
  | .appz k b z s n => vappz p k b z s n
  | .bad => none
  | .call _ _ => none

/-! ### Compiling the model's operations -/

def constAV : Nat → Value → Option AV
  | 0, _ => none
  | n + 1, v => match v with
    | .bool b => some (.bool b)
    | .int k i => some (.int k i)
    | .string s => some (.str s.data.toList)
    | .pointer none => some .nilp
    | .nilFunc => some .nilf
    | .slice none 0 0 => some .nils
    | .agg cs => (cs.toList.mapM (constAV n)).map .agg
    | .tuple cs => (cs.toList.mapM (constAV n)).map .tup
    | _ => none

def cArg : Operand → Option VArg
  | .tmp t => some (.t t)
  | .const v => (constAV 3 v).map .c
  | .global g => some (.g g)
  | .func f => some (.f f)

def cArgs (xs : Array Operand) : Option (List VArg) := xs.toList.mapM cArg

def cOpt : Option Operand → Option (Option VArg)
  | none => some none
  | some x => (cArg x).map some

def isAggT (P : Program) (t : TypeId) : Option Bool :=
  match P.underlying t with
  | some (.struct _) | some (.array _ _) => some true
  | some _ => some false
  | none => none

def shOf (P : Program) (t : TypeId) : Option Sh :=
  match P.underlying t with
  | some (.int _) => some .int
  | some .string => some .str
  | some .bool => some .bool
  | some (.pointer _) => some .ptr
  | some (.slice _) => some .slice
  | some (.func _ _ _) => some .func
  | _ => none

/-- The zero value of a type, all of its cells of one cell. -/
def zeroAV (P : Program) (t : TypeId) : Option AV :=
  match P.info? t with
  | some i => match i.zero with
    | some z => match constAV 3 z with
      | some a => if a.size = i.size ∧ a.cells.all AV.one = true then some a else none
      | none => none
    | none => none
  | none => none

def cBuiltin (P : Program) (b : Builtin) (args : Array Operand) (ts : Array TypeId) : Option (VOp VArg) :=
  match b, args.toList, ts.toList with
  | .len, [x], [t] => match P.underlying t with
    | some .string => (cArg x).map (.len true)
    | some (.slice _) => (cArg x).map (.len false)
    | some (.array n _) => (cArg x).map (.lenN n)
    | _ => none
  | .append, [s, x], [t, t'] => match P.underlying t with
    | some (.slice e) => match P.info? e with
      | some i => if t' = t ∧ 0 < i.size ∧ 0 < i.bytes ∧ (zeroAV P e).isSome then
          match cArg s, cArg x with
          | some s, some x => some (.append i.size i.bytes s x)
          | _, _ => none
        else match P.underlying t', zeroAV P e, cArg s, cArg x with
          | some (.int _), some z, some s, some x => if 0 < i.size then some (.appz i.size i.bytes z s x) else none
          | _, _, _, _ => none
      | none => none
    | _ => none
  | .cap, [x], [t] => match P.underlying t with
    | some (.slice _) => (cArg x).map .cap
    | _ => none
  | .clear, [x], [t] => match P.underlying t with
    | some (.slice e) => match zeroAV P e, cArg x with
      | some z, some x => if 0 < z.size then some (.clear z.size z x) else none
      | _, _ => none
    | _ => none
  | .copy, [d, x], [t, _] => match P.underlying t with
    | some (.slice e) => match P.info? e with
      | some i => if 0 < i.size then
          match cArg d, cArg x with
          | some d, some x => some (.copy i.size d x)
          | _, _ => none
        else none
      | none => none
    | _ => none
  | .min, [x, y], _ => match cArg x, cArg y with | some x, some y => some (.min x y) | _, _ => none
  | .max, [x, y], _ => match cArg x, cArg y with | some x, some y => some (.max x y) | _, _ => none
  | _, _, _ => none

inductive ExtK where
  | idx | ovl

/-- No entry of the model bears the name. -/
def nameFree (n : String) : Bool := (Extern.allGenericRows.lookup n).isNone && (Extern.allTypedRows.lookup n).isNone && (Extern.allRows.lookup n).isNone && (Extern.allNextRows.lookup n).isNone && !(n == "runtime.NumGoroutine")

/-- Functions without a text that are known here. -/
def extK (P : Program) : Operand → Option ExtK
  | .func f => match P.funcs[f]? with
    | some fn => if fn.body.isNone = true then
        if fn.name == "internal/bytealg.IndexByteString" && fn.origin == "" then some .idx
        else if fn.origin == "slices.overlaps" && nameFree fn.name then
          match fn.params[0]? with
          | some t => match P.underlying t with
            | some (.slice e) => if (P.info? e).isSome then some .ovl else none
            | _ => none
          | none => none
        else none
      else none
    | none => none
  | _ => none

def cExt (k : ExtK) : List Operand → Option (VOp VArg)
  | [x, y] => match cArg x, cArg y with
    | some x, some y => some (match k with | .idx => .idx x y | .ovl => .ovl x y)
    | _, _ => none
  | _ => none

def cOp0 (P : Program) : Op → Option (VOp VArg)
  | .move x | .assign x => (cArg x).map .mv
  | .pick c a b => match cArg c, cArg a, cArg b with | some c, some a, some b => some (.pick c a b) | _, _, _ => none
  | .alloc t => (zeroAV P t).map fun z => .box (.c z)
  | .box _ x => (cArg x).map .box
  | .build t ps => match P.underlying t, zeroAV P t, ps.toList.mapM fun p => (cArg p.2).map (p.1, ·) with
    | some (.struct fs), some z, some ps => match fs.toList.mapM (fun f => (P.info? f.type).map fun i => (f.offset, i.size)) with
      | some places => (ps.mapM fun (p : Nat × VArg) => (places[p.1]?).map fun q => (q.1, q.2, p.2)).map (.build z.cells)
      | none => none
    | some (.array _ e), some z, some ps => match P.info? e with
      | some i => some (.build z.cells (ps.map fun p => (p.1 * i.size, i.size, p.2)))
      | none => none
    | _, _, _ => none
  | .buildSlice t n ps => match P.underlying t, ps.toList.mapM fun p => (cArg p.2).map (p.1, ·) with
    | some (.slice e), some ps => match P.info? e, zeroAV P e with
      | some i, some z => if n * i.size ≤ 16777216 ∧ 0 < i.size ∧ n ≤ maxLen then some (.buildSl i.size n z ps) else none
      | _, _ => none
    | _, _ => none
  | .load t x => match isAggT P t, P.info? t, cArg x with
    | some a, some i, some x => if a = true ∨ i.size = 1 then some (.load a i.size x) else none
    | _, _, _ => none
  | .store t x v => match P.info? t, cArg x, cArg v with
    | some i, some x, some v => some (.store i.size x v)
    | _, _, _ => none
  | .nilCheck x => (cArg x).map .nilck
  | .binOp op t x y _ => match shOf P t, cArg x, cArg y with
    | some sh, some x, some y => some (.bin op sh x y)
    | _, _, _ => none
  | .unOp op _ x => (cArg x).map (.un op)
  | .convert s d x => match P.underlying s, P.underlying d with
    | some (.int _), some (.int k) => (cArg x).map (.toInt k)
    | some .string, some .string => (cArg x).map .idStr
    | some (.slice e), some .string => match P.underlying e with | some (.int .u8) => (cArg x).map .bytesStr | _ => none
    | _, _ => none
  | .makeFunc fn a c => match cArgs a, cArgs c with | some a, some c => some (.mkfn fn a c) | _, _ => none
  | .makeSlice t l c => match P.underlying t with
    | some (.slice e) => match P.info? e, zeroAV P e, cArg l, cArg c with
      | some i, some z, some l, some c => if 0 < i.size ∧ 0 < i.bytes then some (.mksl i.size i.bytes z l c) else none
      | _, _, _, _ => none
    | _ => none
  | .slice t x lo hi mx => match P.underlying t with
    | some (.slice e) => match P.info? e, cArg x, cOpt lo, cOpt hi, cOpt mx with
      | some i, some x, some lo, some hi, some mx => if mx.isSome → hi.isSome then some (.slice i.size x lo hi mx) else none
      | _, _, _, _, _ => none
    | some .string => match cArg x, cOpt lo, cOpt hi, mx with
      | some x, some lo, some hi, none => some (.sliceS x lo hi)
      | _, _, _, _ => none
    | _ => none
  | .fieldAddr s x f => match P.underlying s with
    | some (.struct fs) => match fs[f]? with
      | some fd => match P.info? fd.type, cArg x with
        | some i, some x => if i.size = 0 then none else some (.faddr fd.offset x)
        | _, _ => none
      | none => none
    | _ => none
  | .field s x f => match P.underlying s with
    | some (.struct fs) => match fs[f]? with
      | some fd => match isAggT P fd.type, P.info? fd.type, cArg x with
        | some a, some i, some x => some (.field a fd.offset i.size x)
        | _, _, _ => none
      | none => none
    | _ => none
  | .indexAddr t x ix => match P.underlying t with
    | some (.slice e) => match P.info? e, cArg x, cArg ix with
      | some i, some x, some ix => some (.iaddrS i.size x ix)
      | _, _, _ => none
    | some (.array n e) => match P.info? e, cArg x, cArg ix with
      | some i, some x, some ix => some (.iaddrA n i.size x ix)
      | _, _, _ => none
    | _ => none
  | .index t x ix => match P.underlying t with
    | some .string => match cArg x, cArg ix with | some x, some ix => some (.indexS x ix) | _, _ => none
    | some (.array n e) => match isAggT P e, P.info? e, cArg x, cArg ix with
      | some a, some i, some x, some ix => some (.indexA a n i.size x ix)
      | _, _, _, _ => none
    | _ => none
  | .extract x i => (cArg x).map (.extract · i)
  | .call c => match c.callee with
    | .value f => match extK P f with
      | none => match cArg f, cArgs c.args with | some f, some as => some (.call f as) | _, _ => none
      | some k => cExt k c.args.toList
    | .builtin b => cBuiltin P b c.args c.argTypes
    | .invoke _ _ => none
  | _ => none

/-- An operation that is not known here stands as one that comes to nothing. -/
def cOp (P : Program) (o : Op) : Option (VOp VArg) :=
  match cOp0 P o with
  | some v => some v
  | none => some .bad

end Go.VL
