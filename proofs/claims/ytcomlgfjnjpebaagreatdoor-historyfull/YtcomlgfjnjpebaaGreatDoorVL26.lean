/- The V-layer, part 26: one lemma a step, for each operation. Written by program (gen26.py). -/
import Derived.Test.YtcomlgfjnjpebaaGreatDoorVL25
namespace Go.VL

/-- What a guard says of a slot. -/
def vw : AV → Bool → Option Bool
  | .bool b, want => some (b == want)
  | .top, _ => none
  | .anyb, _ => none
  | _, _ => some false
theorem vw_bool {b want : Bool} : vw (.bool b) want = some (b == want) := (rfl)
theorem vw_tup {l : List AV} {want : Bool} : vw (.tup l) want = some false := (rfl)

section
variable (P : Program) (G : Nat → Option (List AV)) (π : Id)

def vsR (base : Nat) (Q : VExit → VS → Prop) (n : Nat) (d : Option Nat) (os : List VOper) (i : Nat) (t : List AV) (σ : Store) : Option Res → Prop
  | some r => vs P G π base Q n os (i + 1) (putT t d r.val) (σ.app r.up)
  | none => False
def vsV (base : Nat) (Q : VExit → VS → Prop) (n : Nat) (d : Option Nat) (os : List VOper) (i : Nat) (t : List AV) (σ : Store) : Option AV → Prop
  | some v => vs P G π base Q n os (i + 1) (putT t d v) σ
  | none => False
def vsG (base : Nat) (Q : VExit → VS → Prop) (n : Nat) (o : VOper) (os : List VOper) (i : Nat) (t : List AV) (σ : Store) : Option Bool → Prop
  | some true => vs P G π base Q n (⟨o.dst, o.op, none⟩ :: os) i t σ
  | some false => vs P G π base Q n os (i + 1) (putT t o.dst (.tup [])) σ
  | none => False
def vdR (base : Nat) (Q : VExit → VS → Prop) (n : Nat) (ps : List (Nat × Nat)) (d : Option Nat) (os : List VOper) (i : Nat) (acc : List Res) (t : List AV) (σ : Store) : Option Res → Prop
  | some r => vd P G π base Q n ps os (i + 1) (r :: acc) (putT t d r.val) (σ.app r.up)
  | none => False
def vdV (base : Nat) (Q : VExit → VS → Prop) (n : Nat) (ps : List (Nat × Nat)) (d : Option Nat) (os : List VOper) (i : Nat) (acc : List Res) (t : List AV) (σ : Store) : Option AV → Prop
  | some v => vd P G π base Q n ps os (i + 1) ({ val := v } :: acc) (putT t d v) σ
  | none => False
def vdG (base : Nat) (Q : VExit → VS → Prop) (n : Nat) (ps : List (Nat × Nat)) (o : VOper) (os : List VOper) (i : Nat) (acc : List Res) (t : List AV) (σ : Store) : Option Bool → Prop
  | some true => vd P G π base Q n ps (⟨o.dst, o.op, none⟩ :: os) i acc t σ
  | some false => vd P G π base Q n ps os (i + 1) ({ val := .tup [] } :: acc) (putT t o.dst (.tup [])) σ
  | none => False

variable {P} {G} {π}
variable {base : Nat} {Q : VExit → VS → Prop} {n : Nat} {ps : List (Nat × Nat)} {d : Option Nat} {os : List VOper} {i : Nat} {acc : List Res} {t : List AV} {σ : Store}

theorem vsR_some {r : Res} : vsR P G π base Q n d os i t σ (some r) = vs P G π base Q n os (i + 1) (putT t d r.val) (σ.app r.up) := (rfl)
theorem vsV_some {v : AV} : vsV P G π base Q n d os i t σ (some v) = vs P G π base Q n os (i + 1) (putT t d v) σ := (rfl)
theorem vdR_some {r : Res} : vdR P G π base Q n ps d os i acc t σ (some r) = vd P G π base Q n ps os (i + 1) (r :: acc) (putT t d r.val) (σ.app r.up) := (rfl)
theorem vdV_some {v : AV} : vdV P G π base Q n ps d os i acc t σ (some v) = vd P G π base Q n ps os (i + 1) ({ val := v } :: acc) (putT t d v) σ := (rfl)
theorem vsR_noIds {o : Option AV} : vsR P G π base Q n d os i t σ (noIds o) = vsV P G π base Q n d os i t σ o := by cases o <;> rfl
theorem vdR_noIds {o : Option AV} : vdR P G π base Q n ps d os i acc t σ (noIds o) = vdV P G π base Q n ps d os i acc t σ o := by cases o <;> rfl
theorem vsG_true {o : VOper} : vsG P G π base Q n o os i t σ (some true) = vs P G π base Q n (⟨o.dst, o.op, none⟩ :: os) i t σ := (rfl)
theorem vsG_false {o : VOper} : vsG P G π base Q n o os i t σ (some false) = vs P G π base Q n os (i + 1) (putT t o.dst (.tup [])) σ := (rfl)
theorem vdG_true {o : VOper} : vdG P G π base Q n ps o os i acc t σ (some true) = vd P G π base Q n ps (⟨o.dst, o.op, none⟩ :: os) i acc t σ := (rfl)
theorem vdG_false {o : VOper} : vdG P G π base Q n ps o os i acc t σ (some false) = vd P G π base Q n ps os (i + 1) ({ val := .tup [] } :: acc) (putT t o.dst (.tup [])) σ := (rfl)

theorem vwanted_vw {j : Nat} {want : Bool} : vwanted t (some (j, want)) = vw (t.getD j (.tup [])) want := by
  rw [List.getD_eq_getElem?_getD]
  show (match t[j]? with | some (.bool b) => some (b == want) | some .top | some .anyb => none | _ => some false) = _
  cases t[j]? with
  | none => rfl
  | some c => cases c <;> rfl

theorem putT_some {d : Nat} {v : AV} : putT t (some d) v = t.set d v := (rfl)
theorem putT_none {v : AV} : putT t none v = t := (rfl)
theorem ev_t {j : Nat} : (VArg.t j).ev G t = t.getD j (.tup []) := (rfl)
theorem ev_c {a : AV} : (VArg.c a).ev G t = a := (rfl)
theorem ev_f {f : Nat} : (VArg.f f).ev G t = .fn (.func f) [] [] := (rfl)
theorem app_nil : σ.app [] = σ := (rfl)
theorem app_cons {x : Id × Option Blk} {l : List (Id × Option Blk)} : σ.app (x :: l) = (σ.put x.1 x.2).app l := (rfl)

/-- A guarded step. -/
theorem sg {op : VOp VArg} {j : Nat} {want : Bool} : vs P G π base Q n (⟨d, op, some (j, want)⟩ :: os) i t σ = vsG P G π base Q n ⟨d, op, none⟩ os i t σ (vw (t.getD j (.tup [])) want) := by
  rw [← vwanted_vw]
  unfold vs vsG
  simp only [vseq]
  cases vwanted t (some (j, want)) with
  | none => rfl
  | some b => cases b <;> rfl
theorem dg {op : VOp VArg} {j : Nat} {want : Bool} : vd P G π base Q n ps (⟨d, op, some (j, want)⟩ :: os) i acc t σ = vdG P G π base Q n ps ⟨d, op, none⟩ os i acc t σ (vw (t.getD j (.tup [])) want) := by
  rw [← vwanted_vw]
  unfold vd vdG
  simp only [vpar]
  cases vwanted t (some (j, want)) with
  | none => rfl
  | some b => cases b <;> rfl

theorem vs_opR {op : VOp VArg} (h : op.isCall = false) : vs P G π base Q n (⟨d, op, none⟩ :: os) i t σ = vsR P G π base Q n d os i t σ (vop σ ((base + i) :: π) (op.map (VArg.ev G t))) := by
  rw [vs_op h]; unfold vexec; simp only [vwanted]; cases vop σ ((base + i) :: π) (op.map (VArg.ev G t)) <;> rfl
theorem vd_opR {op : VOp VArg} (h : op.isCall = false) : vd P G π base Q n ps (⟨d, op, none⟩ :: os) i acc t σ = vdR P G π base Q n ps d os i acc t σ (vop σ ((base + i) :: π) (op.map (VArg.ev G t))) := by
  rw [vd_op h]; unfold vexec; simp only [vwanted]; cases vop σ ((base + i) :: π) (op.map (VArg.ev G t)) <;> rfl

theorem s_mv {x : VArg} : vs P G π base Q n (⟨d, .mv x, none⟩ :: os) i t σ = vsR P G π base Q n d os i t σ (vop σ ((base + i) :: π) (.mv (x.ev G t))) := vs_opR rfl
theorem d_mv {x : VArg} : vd P G π base Q n ps (⟨d, .mv x, none⟩ :: os) i acc t σ = vdR P G π base Q n ps d os i acc t σ (vop σ ((base + i) :: π) (.mv (x.ev G t))) := vd_opR rfl
theorem s_pick {c a b : VArg} : vs P G π base Q n (⟨d, .pick c a b, none⟩ :: os) i t σ = vsR P G π base Q n d os i t σ (vop σ ((base + i) :: π) (.pick (c.ev G t) (a.ev G t) (b.ev G t))) := vs_opR rfl
theorem d_pick {c a b : VArg} : vd P G π base Q n ps (⟨d, .pick c a b, none⟩ :: os) i acc t σ = vdR P G π base Q n ps d os i acc t σ (vop σ ((base + i) :: π) (.pick (c.ev G t) (a.ev G t) (b.ev G t))) := vd_opR rfl
theorem s_box {x : VArg} : vs P G π base Q n (⟨d, .box x, none⟩ :: os) i t σ = vsR P G π base Q n d os i t σ (vop σ ((base + i) :: π) (.box (x.ev G t))) := vs_opR rfl
theorem d_box {x : VArg} : vd P G π base Q n ps (⟨d, .box x, none⟩ :: os) i acc t σ = vdR P G π base Q n ps d os i acc t σ (vop σ ((base + i) :: π) (.box (x.ev G t))) := vd_opR rfl
theorem s_build {z : List AV} {l : List (Nat × Nat × VArg)} : vs P G π base Q n (⟨d, .build z l, none⟩ :: os) i t σ = vsR P G π base Q n d os i t σ (vop σ ((base + i) :: π) (.build z (l.map fun p => (p.1, p.2.1, p.2.2.ev G t)))) := vs_opR rfl
theorem d_build {z : List AV} {l : List (Nat × Nat × VArg)} : vd P G π base Q n ps (⟨d, .build z l, none⟩ :: os) i acc t σ = vdR P G π base Q n ps d os i acc t σ (vop σ ((base + i) :: π) (.build z (l.map fun p => (p.1, p.2.1, p.2.2.ev G t)))) := vd_opR rfl
theorem s_buildSl {k m : Nat} {z : AV} {l : List (Nat × VArg)} : vs P G π base Q n (⟨d, .buildSl k m z l, none⟩ :: os) i t σ = vsR P G π base Q n d os i t σ (vop σ ((base + i) :: π) (.buildSl k m z (l.map fun p => (p.1, p.2.ev G t)))) := vs_opR rfl
theorem d_buildSl {k m : Nat} {z : AV} {l : List (Nat × VArg)} : vd P G π base Q n ps (⟨d, .buildSl k m z l, none⟩ :: os) i acc t σ = vdR P G π base Q n ps d os i acc t σ (vop σ ((base + i) :: π) (.buildSl k m z (l.map fun p => (p.1, p.2.ev G t)))) := vd_opR rfl
theorem s_load {a : Bool} {m : Nat} {x : VArg} : vs P G π base Q n (⟨d, .load a m x, none⟩ :: os) i t σ = vsR P G π base Q n d os i t σ (vop σ ((base + i) :: π) (.load a m (x.ev G t))) := vs_opR rfl
theorem d_load {a : Bool} {m : Nat} {x : VArg} : vd P G π base Q n ps (⟨d, .load a m x, none⟩ :: os) i acc t σ = vdR P G π base Q n ps d os i acc t σ (vop σ ((base + i) :: π) (.load a m (x.ev G t))) := vd_opR rfl
theorem s_store {m : Nat} {x v : VArg} : vs P G π base Q n (⟨d, .store m x v, none⟩ :: os) i t σ = vsR P G π base Q n d os i t σ (vop σ ((base + i) :: π) (.store m (x.ev G t) (v.ev G t))) := vs_opR rfl
theorem d_store {m : Nat} {x v : VArg} : vd P G π base Q n ps (⟨d, .store m x v, none⟩ :: os) i acc t σ = vdR P G π base Q n ps d os i acc t σ (vop σ ((base + i) :: π) (.store m (x.ev G t) (v.ev G t))) := vd_opR rfl
theorem s_nilck {x : VArg} : vs P G π base Q n (⟨d, .nilck x, none⟩ :: os) i t σ = vsR P G π base Q n d os i t σ (vop σ ((base + i) :: π) (.nilck (x.ev G t))) := vs_opR rfl
theorem d_nilck {x : VArg} : vd P G π base Q n ps (⟨d, .nilck x, none⟩ :: os) i acc t σ = vdR P G π base Q n ps d os i acc t σ (vop σ ((base + i) :: π) (.nilck (x.ev G t))) := vd_opR rfl
theorem s_bin {o : BinOp} {sh : Sh} {x y : VArg} : vs P G π base Q n (⟨d, .bin o sh x y, none⟩ :: os) i t σ = vsR P G π base Q n d os i t σ (vop σ ((base + i) :: π) (.bin o sh (x.ev G t) (y.ev G t))) := vs_opR rfl
theorem d_bin {o : BinOp} {sh : Sh} {x y : VArg} : vd P G π base Q n ps (⟨d, .bin o sh x y, none⟩ :: os) i acc t σ = vdR P G π base Q n ps d os i acc t σ (vop σ ((base + i) :: π) (.bin o sh (x.ev G t) (y.ev G t))) := vd_opR rfl
theorem s_un {o : UnOp} {x : VArg} : vs P G π base Q n (⟨d, .un o x, none⟩ :: os) i t σ = vsR P G π base Q n d os i t σ (vop σ ((base + i) :: π) (.un o (x.ev G t))) := vs_opR rfl
theorem d_un {o : UnOp} {x : VArg} : vd P G π base Q n ps (⟨d, .un o x, none⟩ :: os) i acc t σ = vdR P G π base Q n ps d os i acc t σ (vop σ ((base + i) :: π) (.un o (x.ev G t))) := vd_opR rfl
theorem s_toInt {k : IntKind} {x : VArg} : vs P G π base Q n (⟨d, .toInt k x, none⟩ :: os) i t σ = vsR P G π base Q n d os i t σ (vop σ ((base + i) :: π) (.toInt k (x.ev G t))) := vs_opR rfl
theorem d_toInt {k : IntKind} {x : VArg} : vd P G π base Q n ps (⟨d, .toInt k x, none⟩ :: os) i acc t σ = vdR P G π base Q n ps d os i acc t σ (vop σ ((base + i) :: π) (.toInt k (x.ev G t))) := vd_opR rfl
theorem s_idStr {x : VArg} : vs P G π base Q n (⟨d, .idStr x, none⟩ :: os) i t σ = vsR P G π base Q n d os i t σ (vop σ ((base + i) :: π) (.idStr (x.ev G t))) := vs_opR rfl
theorem d_idStr {x : VArg} : vd P G π base Q n ps (⟨d, .idStr x, none⟩ :: os) i acc t σ = vdR P G π base Q n ps d os i acc t σ (vop σ ((base + i) :: π) (.idStr (x.ev G t))) := vd_opR rfl
theorem s_bytesStr {x : VArg} : vs P G π base Q n (⟨d, .bytesStr x, none⟩ :: os) i t σ = vsR P G π base Q n d os i t σ (vop σ ((base + i) :: π) (.bytesStr (x.ev G t))) := vs_opR rfl
theorem d_bytesStr {x : VArg} : vd P G π base Q n ps (⟨d, .bytesStr x, none⟩ :: os) i acc t σ = vdR P G π base Q n ps d os i acc t σ (vop σ ((base + i) :: π) (.bytesStr (x.ev G t))) := vd_opR rfl
theorem s_idx {x c : VArg} : vs P G π base Q n (⟨d, .idx x c, none⟩ :: os) i t σ = vsR P G π base Q n d os i t σ (vop σ ((base + i) :: π) (.idx (x.ev G t) (c.ev G t))) := vs_opR rfl
theorem d_idx {x c : VArg} : vd P G π base Q n ps (⟨d, .idx x c, none⟩ :: os) i acc t σ = vdR P G π base Q n ps d os i acc t σ (vop σ ((base + i) :: π) (.idx (x.ev G t) (c.ev G t))) := vd_opR rfl
theorem s_ovl {x y : VArg} : vs P G π base Q n (⟨d, .ovl x y, none⟩ :: os) i t σ = vsR P G π base Q n d os i t σ (vop σ ((base + i) :: π) (.ovl (x.ev G t) (y.ev G t))) := vs_opR rfl
theorem d_ovl {x y : VArg} : vd P G π base Q n ps (⟨d, .ovl x y, none⟩ :: os) i acc t σ = vdR P G π base Q n ps d os i acc t σ (vop σ ((base + i) :: π) (.ovl (x.ev G t) (y.ev G t))) := vd_opR rfl
theorem s_mkfn {fn : Fn} {a c : List VArg} : vs P G π base Q n (⟨d, .mkfn fn a c, none⟩ :: os) i t σ = vsR P G π base Q n d os i t σ (vop σ ((base + i) :: π) (.mkfn fn (a.map (VArg.ev G t)) (c.map (VArg.ev G t)))) := vs_opR rfl
theorem d_mkfn {fn : Fn} {a c : List VArg} : vd P G π base Q n ps (⟨d, .mkfn fn a c, none⟩ :: os) i acc t σ = vdR P G π base Q n ps d os i acc t σ (vop σ ((base + i) :: π) (.mkfn fn (a.map (VArg.ev G t)) (c.map (VArg.ev G t)))) := vd_opR rfl
theorem s_mksl {k b : Nat} {z : AV} {l c : VArg} : vs P G π base Q n (⟨d, .mksl k b z l c, none⟩ :: os) i t σ = vsR P G π base Q n d os i t σ (vop σ ((base + i) :: π) (.mksl k b z (l.ev G t) (c.ev G t))) := vs_opR rfl
theorem d_mksl {k b : Nat} {z : AV} {l c : VArg} : vd P G π base Q n ps (⟨d, .mksl k b z l c, none⟩ :: os) i acc t σ = vdR P G π base Q n ps d os i acc t σ (vop σ ((base + i) :: π) (.mksl k b z (l.ev G t) (c.ev G t))) := vd_opR rfl
theorem s_slice {k : Nat} {x : VArg} {lo hi mx : Option VArg} : vs P G π base Q n (⟨d, .slice k x lo hi mx, none⟩ :: os) i t σ = vsR P G π base Q n d os i t σ (vop σ ((base + i) :: π) (.slice k (x.ev G t) (lo.map (VArg.ev G t)) (hi.map (VArg.ev G t)) (mx.map (VArg.ev G t)))) := vs_opR rfl
theorem d_slice {k : Nat} {x : VArg} {lo hi mx : Option VArg} : vd P G π base Q n ps (⟨d, .slice k x lo hi mx, none⟩ :: os) i acc t σ = vdR P G π base Q n ps d os i acc t σ (vop σ ((base + i) :: π) (.slice k (x.ev G t) (lo.map (VArg.ev G t)) (hi.map (VArg.ev G t)) (mx.map (VArg.ev G t)))) := vd_opR rfl
theorem s_sliceS {x : VArg} {lo hi : Option VArg} : vs P G π base Q n (⟨d, .sliceS x lo hi, none⟩ :: os) i t σ = vsR P G π base Q n d os i t σ (vop σ ((base + i) :: π) (.sliceS (x.ev G t) (lo.map (VArg.ev G t)) (hi.map (VArg.ev G t)))) := vs_opR rfl
theorem d_sliceS {x : VArg} {lo hi : Option VArg} : vd P G π base Q n ps (⟨d, .sliceS x lo hi, none⟩ :: os) i acc t σ = vdR P G π base Q n ps d os i acc t σ (vop σ ((base + i) :: π) (.sliceS (x.ev G t) (lo.map (VArg.ev G t)) (hi.map (VArg.ev G t)))) := vd_opR rfl
theorem s_faddr {o : Nat} {x : VArg} : vs P G π base Q n (⟨d, .faddr o x, none⟩ :: os) i t σ = vsR P G π base Q n d os i t σ (vop σ ((base + i) :: π) (.faddr o (x.ev G t))) := vs_opR rfl
theorem d_faddr {o : Nat} {x : VArg} : vd P G π base Q n ps (⟨d, .faddr o x, none⟩ :: os) i acc t σ = vdR P G π base Q n ps d os i acc t σ (vop σ ((base + i) :: π) (.faddr o (x.ev G t))) := vd_opR rfl
theorem s_field {a : Bool} {o m : Nat} {x : VArg} : vs P G π base Q n (⟨d, .field a o m x, none⟩ :: os) i t σ = vsR P G π base Q n d os i t σ (vop σ ((base + i) :: π) (.field a o m (x.ev G t))) := vs_opR rfl
theorem d_field {a : Bool} {o m : Nat} {x : VArg} : vd P G π base Q n ps (⟨d, .field a o m x, none⟩ :: os) i acc t σ = vdR P G π base Q n ps d os i acc t σ (vop σ ((base + i) :: π) (.field a o m (x.ev G t))) := vd_opR rfl
theorem s_iaddrS {k : Nat} {x j : VArg} : vs P G π base Q n (⟨d, .iaddrS k x j, none⟩ :: os) i t σ = vsR P G π base Q n d os i t σ (vop σ ((base + i) :: π) (.iaddrS k (x.ev G t) (j.ev G t))) := vs_opR rfl
theorem d_iaddrS {k : Nat} {x j : VArg} : vd P G π base Q n ps (⟨d, .iaddrS k x j, none⟩ :: os) i acc t σ = vdR P G π base Q n ps d os i acc t σ (vop σ ((base + i) :: π) (.iaddrS k (x.ev G t) (j.ev G t))) := vd_opR rfl
theorem s_iaddrA {m k : Nat} {x j : VArg} : vs P G π base Q n (⟨d, .iaddrA m k x j, none⟩ :: os) i t σ = vsR P G π base Q n d os i t σ (vop σ ((base + i) :: π) (.iaddrA m k (x.ev G t) (j.ev G t))) := vs_opR rfl
theorem d_iaddrA {m k : Nat} {x j : VArg} : vd P G π base Q n ps (⟨d, .iaddrA m k x j, none⟩ :: os) i acc t σ = vdR P G π base Q n ps d os i acc t σ (vop σ ((base + i) :: π) (.iaddrA m k (x.ev G t) (j.ev G t))) := vd_opR rfl
theorem s_indexS {x j : VArg} : vs P G π base Q n (⟨d, .indexS x j, none⟩ :: os) i t σ = vsR P G π base Q n d os i t σ (vop σ ((base + i) :: π) (.indexS (x.ev G t) (j.ev G t))) := vs_opR rfl
theorem d_indexS {x j : VArg} : vd P G π base Q n ps (⟨d, .indexS x j, none⟩ :: os) i acc t σ = vdR P G π base Q n ps d os i acc t σ (vop σ ((base + i) :: π) (.indexS (x.ev G t) (j.ev G t))) := vd_opR rfl
theorem s_indexA {a : Bool} {m k : Nat} {x j : VArg} : vs P G π base Q n (⟨d, .indexA a m k x j, none⟩ :: os) i t σ = vsR P G π base Q n d os i t σ (vop σ ((base + i) :: π) (.indexA a m k (x.ev G t) (j.ev G t))) := vs_opR rfl
theorem d_indexA {a : Bool} {m k : Nat} {x j : VArg} : vd P G π base Q n ps (⟨d, .indexA a m k x j, none⟩ :: os) i acc t σ = vdR P G π base Q n ps d os i acc t σ (vop σ ((base + i) :: π) (.indexA a m k (x.ev G t) (j.ev G t))) := vd_opR rfl
theorem s_extract {x : VArg} {j : Nat} : vs P G π base Q n (⟨d, .extract x j, none⟩ :: os) i t σ = vsR P G π base Q n d os i t σ (vop σ ((base + i) :: π) (.extract (x.ev G t) j)) := vs_opR rfl
theorem d_extract {x : VArg} {j : Nat} : vd P G π base Q n ps (⟨d, .extract x j, none⟩ :: os) i acc t σ = vdR P G π base Q n ps d os i acc t σ (vop σ ((base + i) :: π) (.extract (x.ev G t) j)) := vd_opR rfl
theorem s_len {b : Bool} {x : VArg} : vs P G π base Q n (⟨d, .len b x, none⟩ :: os) i t σ = vsR P G π base Q n d os i t σ (vop σ ((base + i) :: π) (.len b (x.ev G t))) := vs_opR rfl
theorem d_len {b : Bool} {x : VArg} : vd P G π base Q n ps (⟨d, .len b x, none⟩ :: os) i acc t σ = vdR P G π base Q n ps d os i acc t σ (vop σ ((base + i) :: π) (.len b (x.ev G t))) := vd_opR rfl
theorem s_lenN {m : Nat} {x : VArg} : vs P G π base Q n (⟨d, .lenN m x, none⟩ :: os) i t σ = vsR P G π base Q n d os i t σ (vop σ ((base + i) :: π) (.lenN m (x.ev G t))) := vs_opR rfl
theorem d_lenN {m : Nat} {x : VArg} : vd P G π base Q n ps (⟨d, .lenN m x, none⟩ :: os) i acc t σ = vdR P G π base Q n ps d os i acc t σ (vop σ ((base + i) :: π) (.lenN m (x.ev G t))) := vd_opR rfl
theorem s_append {k b : Nat} {s x : VArg} : vs P G π base Q n (⟨d, .append k b s x, none⟩ :: os) i t σ = vsR P G π base Q n d os i t σ (vop σ ((base + i) :: π) (.append k b (s.ev G t) (x.ev G t))) := vs_opR rfl
theorem d_append {k b : Nat} {s x : VArg} : vd P G π base Q n ps (⟨d, .append k b s x, none⟩ :: os) i acc t σ = vdR P G π base Q n ps d os i acc t σ (vop σ ((base + i) :: π) (.append k b (s.ev G t) (x.ev G t))) := vd_opR rfl
theorem s_min {x y : VArg} : vs P G π base Q n (⟨d, .min x y, none⟩ :: os) i t σ = vsR P G π base Q n d os i t σ (vop σ ((base + i) :: π) (.min (x.ev G t) (y.ev G t))) := vs_opR rfl
theorem d_min {x y : VArg} : vd P G π base Q n ps (⟨d, .min x y, none⟩ :: os) i acc t σ = vdR P G π base Q n ps d os i acc t σ (vop σ ((base + i) :: π) (.min (x.ev G t) (y.ev G t))) := vd_opR rfl
theorem s_max {x y : VArg} : vs P G π base Q n (⟨d, .max x y, none⟩ :: os) i t σ = vsR P G π base Q n d os i t σ (vop σ ((base + i) :: π) (.max (x.ev G t) (y.ev G t))) := vs_opR rfl
theorem d_max {x y : VArg} : vd P G π base Q n ps (⟨d, .max x y, none⟩ :: os) i acc t σ = vdR P G π base Q n ps d os i acc t σ (vop σ ((base + i) :: π) (.max (x.ev G t) (y.ev G t))) := vd_opR rfl
theorem s_cap {x : VArg} : vs P G π base Q n (⟨d, .cap x, none⟩ :: os) i t σ = vsR P G π base Q n d os i t σ (vop σ ((base + i) :: π) (.cap (x.ev G t))) := vs_opR rfl
theorem d_cap {x : VArg} : vd P G π base Q n ps (⟨d, .cap x, none⟩ :: os) i acc t σ = vdR P G π base Q n ps d os i acc t σ (vop σ ((base + i) :: π) (.cap (x.ev G t))) := vd_opR rfl
theorem s_clear {k : Nat} {z : AV} {x : VArg} : vs P G π base Q n (⟨d, .clear k z x, none⟩ :: os) i t σ = vsR P G π base Q n d os i t σ (vop σ ((base + i) :: π) (.clear k z (x.ev G t))) := vs_opR rfl
theorem d_clear {k : Nat} {z : AV} {x : VArg} : vd P G π base Q n ps (⟨d, .clear k z x, none⟩ :: os) i acc t σ = vdR P G π base Q n ps d os i acc t σ (vop σ ((base + i) :: π) (.clear k z (x.ev G t))) := vd_opR rfl
theorem s_copy {k : Nat} {e x : VArg} : vs P G π base Q n (⟨d, .copy k e x, none⟩ :: os) i t σ = vsR P G π base Q n d os i t σ (vop σ ((base + i) :: π) (.copy k (e.ev G t) (x.ev G t))) := vs_opR rfl
theorem d_copy {k : Nat} {e x : VArg} : vd P G π base Q n ps (⟨d, .copy k e x, none⟩ :: os) i acc t σ = vdR P G π base Q n ps d os i acc t σ (vop σ ((base + i) :: π) (.copy k (e.ev G t) (x.ev G t))) := vd_opR rfl
theorem s_appz {k b : Nat} {z : AV} {s m : VArg} : vs P G π base Q n (⟨d, .appz k b z s m, none⟩ :: os) i t σ = vsR P G π base Q n d os i t σ (vop σ ((base + i) :: π) (.appz k b z (s.ev G t) (m.ev G t))) := vs_opR rfl
theorem d_appz {k b : Nat} {z : AV} {s m : VArg} : vd P G π base Q n ps (⟨d, .appz k b z s m, none⟩ :: os) i acc t σ = vdR P G π base Q n ps d os i acc t σ (vop σ ((base + i) :: π) (.appz k b z (s.ev G t) (m.ev G t))) := vd_opR rfl
theorem s_call {f : VArg} {l : List VArg} : vs P G π base Q n (⟨d, .call f l, none⟩ :: os) i t σ = vsAsk P G π base Q n d os i t σ (some true) (f.ev G t) (l.map (VArg.ev G t)) := vs_call
theorem d_call {f : VArg} {l : List VArg} : vd P G π base Q n ps (⟨d, .call f l, none⟩ :: os) i acc t σ = vdAsk P G π base Q n ps d os i acc t σ (some true) (f.ev G t) (l.map (VArg.ev G t)) := vd_call

/-- A guard not yet decided. -/
theorem vsG_of {o : VOper} {b w : Bool} (h1 : b = w → vs P G π base Q n (⟨o.dst, o.op, none⟩ :: os) i t σ) (h2 : b = (!w) → vs P G π base Q n os (i + 1) (putT t o.dst (.tup [])) σ) : vsG P G π base Q n o os i t σ (some (b == w)) := by
  cases b <;> cases w <;> first | exact h1 rfl | exact h2 rfl
theorem vcond_of {x y : VCode} {s : VS} {b : Bool} (h1 : b = true → vwp P G π x Q s) (h2 : b = false → vwp P G π y Q s) : vcond P G π x y Q s (.bool b) := by
  cases b <;> first | exact h1 rfl | exact h2 rfl
end

section
variable {σ : Store} {p : Id}
theorem vop_mv {x : AV} : vop σ p (.mv x) = noIds (some x) := (rfl)
theorem vop_pick {b : Bool} {x y : AV} : vop σ p (.pick (.bool b) x y) = noIds (some (if b then x else y)) := (rfl)
theorem vop_box {x : AV} : vop σ p (.box x) = if x.cells.all AV.one = true then some { val := .ref p 0 0, up := [(p, some ⟨[x], x.size, false⟩)] } else none := (rfl)
theorem vop_build {z : List AV} {l : List (Nat × Nat × AV)} : vop σ p (.build z l) = noIds ((vfill z l).map .agg) := (rfl)
theorem vop_buildSl {k n : Nat} {z : AV} {ps : List (Nat × AV)} : vop σ p (.buildSl k n z ps) = (match vfillEls k (List.replicate n z) ps with
    | some es => if z.size = k ∧ z.cells.all AV.one = true then some { val := .osl p k 0 n false, up := [(p, some ⟨es, k, false⟩)] } else none
    | none => none) := rfl
theorem vop_load {a : Bool} {n : Nat} {x : AV} : vop σ p (.load a n x) = vload σ a n x := (rfl)
theorem vop_store {n : Nat} {x v : AV} : vop σ p (.store n x v) = vstore σ n x v := (rfl)
theorem vop_bin {o : BinOp} {sh : Sh} {x y : AV} : vop σ p (.bin o sh x y) = noIds (vbinq o sh x y) := (rfl)
theorem vop_un {o : UnOp} {x : AV} : vop σ p (.un o x) = noIds (vun o x) := (rfl)
theorem vop_toInt {k k' : IntKind} {n : Int} : vop σ p (.toInt k (.int k' n)) = noIds (some (.int k (k.wrap n))) := (rfl)
theorem vop_idStr {s : List UInt8} : vop σ p (.idStr (.str s)) = noIds (some (.str s)) := (rfl)
theorem vop_bytesStr {x : AV} : vop σ p (.bytesStr x) = vbytesStr σ x := (rfl)
theorem vop_mkfn {fn : Fn} {a c : List AV} : vop σ p (.mkfn fn a c) = noIds (some (.fn fn a c)) := (rfl)
theorem vop_mksl {k b : Nat} {z l c : AV} : vop σ p (.mksl k b z l c) = vmksl p k b z l c := (rfl)
theorem vop_slice {k : Nat} {x : AV} {lo hi mx : Option AV} : vop σ p (.slice k x lo hi mx) = vsliceR σ k x lo hi mx (vslice k x lo hi mx) := (rfl)
theorem vsliceR_some {k : Nat} {x : AV} {lo hi mx : Option AV} {v : AV} : vsliceR σ k x lo hi mx (some v) = noIds (some v) := (rfl)
theorem vop_sliceS {x : AV} {lo hi : Option AV} : vop σ p (.sliceS x lo hi) = noIds (vsliceS x lo hi) := (rfl)
theorem vop_faddr_ref {o : Nat} {id : Id} {e q : Nat} : vop σ p (.faddr o (.ref id e q)) = noIds (some (.ref id e (q + o))) := (rfl)
theorem vop_faddr_ep {o : Nat} {cs : List AV} {q : Nat} : vop σ p (.faddr o (.ep cs q)) = noIds (some (.ep cs (q + o))) := (rfl)
theorem vop_field {a : Bool} {o n : Nat} {cs : List AV} : vop σ p (.field a o n (.agg cs)) = noIds (part a cs o n) := (rfl)
theorem vop_iaddrS {k : Nat} {x i : AV} : vop σ p (.iaddrS k x i) = noIds (viaddrS k x i) := (rfl)
theorem vop_iaddrA {n k : Nat} {x i : AV} : vop σ p (.iaddrA n k x i) = noIds (viaddrA n k x i) := (rfl)
theorem vop_indexS {s : List UInt8} {k : IntKind} {i : Int} : vop σ p (.indexS (.str s) (.int k i)) = if 0 ≤ i then noIds ((s[i.toNat]?).map fun b => .int .u8 b.toNat) else none := (rfl)
theorem vop_indexA {a : Bool} {n k : Nat} {cs : List AV} {k' : IntKind} {i : Int} : vop σ p (.indexA a n k (.agg cs) (.int k' i)) = if 0 ≤ i ∧ i < n then noIds (part a cs (i.toNat * k) k) else none := (rfl)
theorem vop_extract {l : List AV} {i : Nat} : vop σ p (.extract (.tup l) i) = noIds l[i]? := (rfl)
theorem vop_len {b : Bool} {x : AV} : vop σ p (.len b x) = noIds (vlen b x) := (rfl)
theorem vop_lenN {n : Nat} {x : AV} : vop σ p (.lenN n x) = noIds (some (.int .i64 n)) := (rfl)
theorem vop_append {k b : Nat} {s x : AV} : vop σ p (.append k b s x) = vappend σ p k b s x := (rfl)
theorem vop_min {k k' : IntKind} {a b : Int} : vop σ p (.min (.int k a) (.int k' b)) = noIds (some (.int k (if b < a then b else a))) := (rfl)
theorem vop_max {k k' : IntKind} {a b : Int} : vop σ p (.max (.int k a) (.int k' b)) = noIds (some (.int k (if b > a then b else a))) := (rfl)
theorem vop_cap {x : AV} : vop σ p (.cap x) = vcapR σ x (vcap x) := (rfl)
theorem vcapR_some {x v : AV} : vcapR σ x (some v) = noIds (some v) := (rfl)
theorem vop_idx {x c : AV} : vop σ p (.idx x c) = noIds (vidx x c) := (rfl)
theorem vidx_str {s : List UInt8} {c : Int} : vidx (.str s) (.int .u8 c) = some (.int .i64 (idxByte s c.toNat.toUInt8)) := (rfl)
theorem vop_ovl {x y : AV} : vop σ p (.ovl x y) = vovl σ x y := (rfl)
theorem vop_clear {k : Nat} {z x : AV} : vop σ p (.clear k z x) = vclear σ k z x := (rfl)
theorem vop_copy {k : Nat} {d x : AV} : vop σ p (.copy k d x) = vcopy σ k d x := (rfl)
theorem vop_appz {k b : Nat} {z s n : AV} : vop σ p (.appz k b z s n) = vappz p k b z s n := (rfl)
theorem vop_nilck_ref {id : Id} {e o : Nat} : vop σ p (.nilck (.ref id e o)) = noIds (some (.ref id e o)) := (rfl)
theorem vop_nilck_ep {cs : List AV} {o : Nat} : vop σ p (.nilck (.ep cs o)) = noIds (some (.ep cs o)) := (rfl)
theorem vop_nilck_fn {f : FuncId} {a c : List AV} : vop σ p (.nilck (.fn (.func f) a c)) = noIds (some (.fn (.func f) a c)) := (rfl)

theorem bin_add {k : IntKind} {a b : Int} : vbinq .add .int (.int k a) (.int k b) = some (.int k (k.wrap (a + b))) := by simp only [vbinq]; rw [show vbin .add .int (.int k a) (.int k b) = some (.int k (k.wrap (a + b))) from by simp [vbin, vint]]
theorem bin_sub {k : IntKind} {a b : Int} : vbinq .sub .int (.int k a) (.int k b) = some (.int k (k.wrap (a - b))) := by simp only [vbinq]; rw [show vbin .sub .int (.int k a) (.int k b) = some (.int k (k.wrap (a - b))) from by simp [vbin, vint]]
theorem bin_mul {k : IntKind} {a b : Int} : vbinq .mul .int (.int k a) (.int k b) = some (.int k (k.wrap (a * b))) := by simp only [vbinq]; rw [show vbin .mul .int (.int k a) (.int k b) = some (.int k (k.wrap (a * b))) from by simp [vbin, vint]]
theorem bin_quo {k : IntKind} {a b : Int} (h : b ≠ 0) : vbinq .quo .int (.int k a) (.int k b) = some (.int k (k.wrap (a.tdiv b))) := by simp only [vbinq]; rw [show vbin .quo .int (.int k a) (.int k b) = some (.int k (k.wrap (a.tdiv b))) from by simp [vbin, vint, h]]
theorem bin_rem {k : IntKind} {a b : Int} (h : b ≠ 0) : vbinq .rem .int (.int k a) (.int k b) = some (.int k (a.tmod b)) := by simp only [vbinq]; rw [show vbin .rem .int (.int k a) (.int k b) = some (.int k (a.tmod b)) from by simp [vbin, vint, h]]
theorem bin_eql {k : IntKind} {a b : Int} : vbinq .eql .int (.int k a) (.int k b) = some (.bool (decide (a = b))) := by simp only [vbinq]; rw [show vbin .eql .int (.int k a) (.int k b) = some (.bool (decide (a = b))) from by simp only [vbin, vint, or_true, if_true]; rfl]
theorem bin_neq {k : IntKind} {a b : Int} : vbinq .neq .int (.int k a) (.int k b) = some (.bool (decide (a ≠ b))) := by simp only [vbinq]; rw [show vbin .neq .int (.int k a) (.int k b) = some (.bool (decide (a ≠ b))) from by simp [vbin, vint, bne, Int.instDecidableEq]; rfl]
theorem bin_lss {k : IntKind} {a b : Int} : vbinq .lss .int (.int k a) (.int k b) = some (.bool (decide (a < b))) := by simp only [vbinq]; rw [show vbin .lss .int (.int k a) (.int k b) = some (.bool (decide (a < b))) from by simp [vbin, vint]]
theorem bin_leq {k : IntKind} {a b : Int} : vbinq .leq .int (.int k a) (.int k b) = some (.bool (decide (a ≤ b))) := by simp only [vbinq]; rw [show vbin .leq .int (.int k a) (.int k b) = some (.bool (decide (a ≤ b))) from by simp [vbin, vint]]
theorem bin_gtr {k : IntKind} {a b : Int} : vbinq .gtr .int (.int k a) (.int k b) = some (.bool (decide (b < a))) := by simp only [vbinq]; rw [show vbin .gtr .int (.int k a) (.int k b) = some (.bool (decide (b < a))) from by simp [vbin, vint]]
theorem bin_geq {k : IntKind} {a b : Int} : vbinq .geq .int (.int k a) (.int k b) = some (.bool (decide (b ≤ a))) := by simp only [vbinq]; rw [show vbin .geq .int (.int k a) (.int k b) = some (.bool (decide (b ≤ a))) from by simp [vbin, vint]]
theorem bin_shl {k k' : IntKind} {a b : Int} (h : 0 ≤ b) : vbinq .shl .int (.int k a) (.int k' b) = some (.int k (k.wrap (a * 2 ^ (min b.toNat k.bits)))) := by simp only [vbinq]; rw [show vbin .shl .int (.int k a) (.int k' b) = some (.int k (k.wrap (a * 2 ^ (min b.toNat k.bits)))) from by simp [vbin, vint, Int.not_lt.2 h]]
theorem bin_shr {k k' : IntKind} {a b : Int} (h : 0 ≤ b) : vbinq .shr .int (.int k a) (.int k' b) = some (.int k (a.fdiv (2 ^ (min b.toNat k.bits)))) := by simp only [vbinq]; rw [show vbin .shr .int (.int k a) (.int k' b) = some (.int k (a.fdiv (2 ^ (min b.toNat k.bits)))) from by simp [vbin, vint, Int.not_lt.2 h]]
theorem bin_str_eql {a b : List UInt8} : vbinq .eql .str (.str a) (.str b) = some (.bool (a == b)) := (rfl)
theorem bin_str_neq {a b : List UInt8} : vbinq .neq .str (.str a) (.str b) = some (.bool !(a == b)) := (rfl)
theorem bin_bool_eql {a b : Bool} : vbinq .eql .bool (.bool a) (.bool b) = some (.bool (a == b)) := (rfl)
theorem bin_bool_neq {a b : Bool} : vbinq .neq .bool (.bool a) (.bool b) = some (.bool !(a == b)) := (rfl)
theorem bin_nil0 {k : Nat} : vbinq .eql .slice (.sl k []) .nils = some .anyb := (rfl)
theorem bin_nil1 {k : Nat} {e : AV} {es : List AV} : vbinq .eql .slice (.sl k (e :: es)) .nils = some (.bool false) := (rfl)
theorem bin_nil2 {id : Id} {k o l : Nat} {t : Bool} : vbinq .eql .slice (.osl id k o l t) .nils = some (.bool false) := (rfl)
theorem bin_nil3 : vbinq .eql .slice .nils .nils = some (.bool true) := (rfl)
theorem bin_ptr1 {id : Id} {e o : Nat} : vbinq .eql .ptr (.ref id e o) .nilp = some (.bool false) := (rfl)
theorem un_not {a : Bool} : vun .not (.bool a) = some (.bool !a) := (rfl)
theorem un_neg {k : IntKind} {a : Int} : vun .neg (.int k a) = some (.int k (k.wrap (0 - a))) := (rfl)
theorem len_nils : vlen false .nils = some (.int .i64 0) := (rfl)
theorem len_sl {k : Nat} {es : List AV} : vlen false (.sl k es) = some (.int .i64 es.length) := (rfl)
theorem len_tsl {k : Nat} {es : List AV} : vlen false (.tsl k es) = some (.int .i64 es.length) := (rfl)
theorem len_osl {id : Id} {k o l : Nat} {b : Bool} : vlen false (.osl id k o l b) = some (.int .i64 l) := (rfl)
theorem len_str {s : List UInt8} : vlen true (.str s) = some (.int .i64 s.length) := (rfl)
end

end Go.VL
