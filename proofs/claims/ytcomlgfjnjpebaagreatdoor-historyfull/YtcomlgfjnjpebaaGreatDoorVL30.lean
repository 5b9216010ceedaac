/- The V-layer, part 30: the end of a law: true is answered, and below the call's own blocks nothing has turned. -/
import Derived.ProofKit
import Derived.Test.YtcomlgfjnjpebaaGreatDoorVL21
namespace Go.VL
open Go.ChangeShapes Go.WideShapes Go.ChangeAt Go.RowKit

section
variable {H : Type} {enc : TypeId × Value → H} {P : Program}

theorem trodAll_stays (hl : laidOutB P = true) {W W' : World} {sp : Nat → Bool} (hB : Below W.heap.size W W') : ∀ {ts : List TypeId} {vs : List Value} {ds : List (DataW H)} {ps : List MemPlace},
    (∀ t ∈ ts, P.readableRec t = true ∧ t < P.types.size) → DataW.TrodAll enc P W 0 (fun _ => true) true ts vs ds ps → (∀ p ∈ ps, p.block < W.heap.size) → (∀ p ∈ ps, sp p.block = true) →
    DataW.TrodAll enc P W' 0 sp true ts vs ds ps
  | [], [], [], ps, _, h, _, _ => by simpa [DataW.TrodAll] using h
  | t :: ts, v :: vs, d :: ds, ps, hr, h, hlt, hsp => by
    simp only [DataW.TrodAll] at h ⊢
    obtain ⟨p, q, h1, h2, rfl⟩ := h
    refine ⟨p, q, ?_, trodAll_stays hl hB (fun x hx => hr x (by simp [hx])) h2 (fun x hx => hlt x (by simp [hx])) (fun x hx => hsp x (by simp [hx])), rfl⟩
    exact WideElems.Trod_stays hl (hr t (by simp)).1 (hr t (by simp)).2 h1 (fun x hx => hB.same (hlt x (by simp [hx]))) (fun x hx => hsp x (by simp [hx]))
  | [], [], _ :: _, _, _, h, _, _ => by simp [DataW.TrodAll] at h
  | [], _ :: _, _, _, _, h, _, _ => by simp [DataW.TrodAll] at h
  | _ :: _, [], _, _, _, h, _, _ => by simp [DataW.TrodAll] at h
  | _ :: _, _ :: _, [], _, _, h, _, _ => by simp [DataW.TrodAll] at h

/-- A law without variables: true, the arguments as they were. -/
theorem post_law {f : Func} {s : ChangeSpec} {apart fresh handsOn : Bool} {W W' : World} {args : Array Value} {ds gs : List (DataW H)} {before : List MemPlace}
    (hl : laidOutB P = true) (hr : ∀ t ∈ f.params.toList, P.readableRec t = true ∧ t < P.types.size) (hv : s.vars = [])
    (hs : (s.fn H (ds ++ gs)) = { results := [.lit (.bool true)], args := ds }) {tb : TypeId} (hres : f.resultTypes = #[tb]) (htb : P.underlying tb = some .bool)
    (hW : DataW.Whole enc P f.params.toList s.vars apart W args.toList ds gs before) (hB : Below W.heap.size W W') :
    s.post enc P f apart fresh handsOn false W args (.bool true) W' := by
  have hlt := hW.lt
  have hW' := hW
  obtain ⟨p, q, h1, h2, rfl, h3, h4⟩ := hW
  rw [hv] at h2
  have hq : q = [] ∧ gs = [] := by
    cases gs with
    | nil => simp only [DataW.TrodVars] at h2; exact ⟨h2, rfl⟩
    | cons _ _ => simp [DataW.TrodVars] at h2
  obtain ⟨rfl, rfl⟩ := hq
  refine ⟨ds, [], p ++ [], [], p, [], hW', ?_, ?_, ?_, hB.frame _, fun h => by simp at h⟩
  · rw [hs, hres]
    exact trodAll_mk1 ⟨1, by simp [DataW.trod, htb, Value.cells]⟩
  · rw [hs]
    exact trodAll_stays hl hB hr h1 (fun x hx => hlt x (by simp [hx])) (fun x hx => by simpa using hlt x (by simp [hx]))
  · rw [hs, hv]; simp [DataW.TrodVars]

end

/-- What a contract on trees says of a law that answers true: below the heap's size of the start nothing has turned. -/
theorem law_of_call {P : Program} {G : Nat → Option (List AV)} {f : FuncId} {args : List AV} {r : Res} (h : CallRel P G f args [] [] r) (hr : r.val = .bool true) {w : World} {ok : Nat → Prop}
    (hok : ∀ b, ok b → b < w.heap.size) (hg : ∀ g cs, G g = some cs → ok g ∧ RepCells ⟨fun _ => none, ok⟩ w g 0 cs) {vs : List Value} (ha : RepL ⟨fun _ => none, ok⟩ w args vs) :
    Calls P f vs.toArray w fun e w' => e = .returned (.bool true) ∧ Below w.heap.size w w' := by
  have hi : Inv G (fun k => w.heap.size ≤ k) ⟨fun _ => none, ok⟩ w (fun _ => none) := ⟨hok, fun id bk h => by simp at h, fun i j x y h => absurd rfl h, hg, fun k hk => hk⟩
  refine (h.2 _ _ w _ vs (by simp) hi ha (fun _ _ => rfl)).mono fun e w' he => ?_
  obtain ⟨v, E', rfl, hp⟩ := he
  have hv := hp.rep
  rw [hr] at hv
  simp only [Rep] at hv
  subst hv
  exact ⟨rfl, hp.adv.os, hp.adv.tape, hp.adv.output, hp.adv.size, fun k hk => hp.adv.block k hk (by omega)⟩

end Go.VL
