/- Facts that many contracts share. -/
import Derived.Test.YtcomlgfjnjpebaaGreatDoorVL28
import Derived.Test.YtcomlgfjnjpebaaGreatDoorCLex
set_option linter.unusedSimpArgs false
namespace Go.VL

theorem iaddrS_sl {k kk : Nat} {es : List AV} {e : AV} {ik : IntKind} {i : Nat} (hk : kk = k) (h : es[i]? = some e) : viaddrS k (.sl kk es) (.int ik (i : Int)) = some (.ep e.cells 0) := by
  subst hk
  simp [viaddrS, h]
theorem iaddrS_osl {k : Nat} {id : Id} {off len : Nat} {b : Bool} {ik : IntKind} {i : Nat} (h : i < len) : viaddrS k (.osl id k off len b) (.int ik (i : Int)) = some (.ref id (off + i) 0) := by
  simp [viaddrS, h]

def idxI : Option Nat → Int
  | some i => i
  | none => -1

theorem findIdx_none {α : Type} {p : α → Bool} {l : List α} (h : ∀ (j : Nat) x, l[j]? = some x → p x = false) : l.findIdx? p = none := by
  rw [List.findIdx?_eq_none_iff]
  intro x hx
  obtain ⟨j, hj⟩ := List.getElem?_of_mem hx
  exact h j x hj
theorem findIdx_some {α : Type} {p : α → Bool} {l : List α} {i : Nat} {x : α} (hi : l[i]? = some x) (hx : p x = true) (h : ∀ (j : Nat) x, j < i → l[j]? = some x → p x = false) : l.findIdx? p = some i := by
  rw [List.findIdx?_eq_some_iff_getElem]
  obtain ⟨hlt, he⟩ := List.getElem?_eq_some_iff.1 hi
  refine ⟨hlt, by rw [he]; exact hx, fun j hji => ?_⟩
  have := h j _ hji (List.getElem?_eq_getElem (by omega))
  simp [this]

section
variable {P : Program} {G : Nat → Option (List AV)}
end

end Go.VL
