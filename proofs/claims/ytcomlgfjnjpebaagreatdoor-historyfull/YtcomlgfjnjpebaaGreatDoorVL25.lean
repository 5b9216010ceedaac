/- The V-layer, part 25: a call that answers what leads to no memory, as a contract. -/
import Derived.Test.YtcomlgfjnjpebaaGreatDoorVL24
import Derived.Test.YtcomlgfjnjpebaaGreatDoorVL23
namespace Go.VL

section
variable {P : Program} {G : Nat → Option (List AV)}

theorem VP.of_call {f : FuncId} {args : List AV} {r : Res} (h : CallRel P G f args [] [] r) (hf : FlatAV r.val) : VP P G f args r.val := by
  refine ⟨h.1, fun w vs ok hi hr => ?_⟩
  refine (h.2 _ _ w _ vs (by simp) hi hr (fun _ _ => rfl)).mono fun e w' he => ?_
  obtain ⟨v, E', rfl, hp⟩ := he
  refine ⟨v, ok, rfl, ⟨⟨fun _ _ h => h, fun _ h => h, hp.adv.step.same⟩, hp.adv.os, hp.adv.tape, hp.adv.output, hp.adv.size, hp.adv.block, fun _ h => .inl h⟩, fun b hb => ?_, hf _ _ _ _ _ hp.rep⟩
  exact Nat.lt_of_lt_of_le (hi.okb b hb) hp.adv.size

theorem VP.of_memo {m : Memo} (h : MemoOk P G m) (hS : m.S = []) (hp : m.p = []) (hf : FlatAV m.r.val) : VP P G m.f m.args m.r.val := by
  obtain ⟨S, h1, h2, _⟩ := h
  have : S = [] := by
    cases S with
    | nil => rfl
    | cons x S => have := h2 x (by simp); rw [hS] at this; simp [Store.of] at this
  subst this
  rw [hp] at h1
  exact VP.of_call h1 hf

end

end Go.VL
