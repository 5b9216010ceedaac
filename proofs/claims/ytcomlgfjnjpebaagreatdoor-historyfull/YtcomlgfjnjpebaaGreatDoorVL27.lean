/- The V-layer, part 27: contracts over any program that bears a function; small facts that steps need. -/
import Derived.Test.YtcomlgfjnjpebaaGreatDoorVL26
namespace Go.VL

/-- The program's function number f is, in the form of the V-layer, vf. -/
def Has (P : Program) (f : FuncId) (vf : VFunc) : Prop := ∃ fn, P.funcs[f]? = some fn ∧ cFunc P fn = some vf

section
variable {P : Program} {G : Nat → Option (List AV)}

theorem VP.has {f : FuncId} {vf : VFunc} (h : Has P f vf) {args : List AV} {r : AV} (k : vwp P G [] vf.body (RetQ vf.results r) ⟨args ++ List.replicate (vf.nt - args.length) (.tup []), fun _ => none, 0⟩) : VP P G f args r := by
  obtain ⟨fn, h1, h2⟩ := h
  exact VP.of h1 h2 k

theorem CallRel.has {f : FuncId} {vf : VFunc} (h : Has P f vf) {args : List AV} {p : Id} {S : List (Id × Blk)} {r : Res}
    (k : vwp P G p vf.body (EndQ G p S vf.results r) ⟨args ++ List.replicate (vf.nt - args.length) (.tup []), Store.of S, 0⟩) : CallRel P G f args p S r := by
  obtain ⟨fn, h1, h2⟩ := h
  exact CallRel.of_VW h1 h2 (VW.of k)

/-- A call, a contract on frozen trees at hand. -/
theorem vsCall_view {π : Id} {base : Nat} {Q : VExit → VS → Prop} {n : Nat} {d : Option Nat} {os : List VOper} {i : Nat} {t : List AV} {σ : Store} {f : FuncId} {args args' : List AV} {r : AV} (S : List (Id × Blk))
    (h : VP P G f args' r) (hv : ViewL (Store.of S) args args') (hS : ∀ x ∈ S, σ x.1 = some x.2) (k : vs P G π base Q n os (i + 1) (putT t d r) (σ.app (frz S))) : vsCall P G π base Q n d os i t σ f args :=
  ⟨S, _, CallRel.of_view h hv, hS, fun x hx => List.mem_map.2 ⟨x, hx, rfl⟩, k⟩
theorem vsCall_flat {π : Id} {base : Nat} {Q : VExit → VS → Prop} {n : Nat} {d : Option Nat} {os : List VOper} {i : Nat} {t : List AV} {σ : Store} {f : FuncId} {args args' : List AV} {r : AV} (S : List (Id × Blk))
    (h : VP P G f args' r) (hv : ViewL (Store.of S) args args') (hf : FlatAV r) (hS : ∀ x ∈ S, σ x.1 = some x.2) (k : vs P G π base Q n os (i + 1) (putT t d r) σ) : vsCall P G π base Q n d os i t σ f args :=
  ⟨S, _, CallRel.of_flat h hv hf, hS, fun x hx => List.mem_map.2 ⟨x, hx, rfl⟩, k⟩

theorem retQ_of_pure {rs : List VRes} {r : AV} {s : VS} (h : outAV rs s = some r) (hp : PureAV r) : ∃ r0, outAV rs s = some r0 ∧ View s.σ r0 r := ⟨r, h, View.pure hp⟩
end

theorem put_at {σ : Store} {id : Id} {b : Option Blk} : σ.put id b id = b := Store.put_same σ id b
theorem put_at' {σ : Store} {id i : Id} {b : Option Blk} (h : i ≠ id) : σ.put id b i = σ i := Store.put_other σ id b h

/-- A pointer into the store is read. -/
theorem vload_ref {σ : Store} {agg : Bool} {n e o : Nat} {id : Id} {bk : Blk} {el : AV} (h : σ id = some bk) (he : bk.els[e]? = some el) : vload σ agg n (.ref id e o) = (part agg el.cells o n).map fun v => { val := v, rd := [id] } := by
  simp [vload, h, he]
theorem vload_ep {σ : Store} {agg : Bool} {n o : Nat} {cs : List AV} : vload σ agg n (.ep cs o) = (part agg cs o n).map fun v => { val := v } := rfl

end Go.VL
