/- toUint as a contract of the V-layer, for the evaluator. -/
import Derived.Test.YtjbpoldgiiipkaaGreatTU
import Derived.Test.YtjbpoldgiiipkaaGreatVL22
namespace Go.Proofs
open Go.VL Go.RowKit

def Tryz.X (f : FuncId) (args : List AV) (_ : Go.VL.Id) (L : LStore) : Option Res :=
  if f = 148 then
    match args with
    | [x] => match elemsOf L.to 1 x with
      | some (ys, rd) => match intsOf .u32 ys with
        | some zs => if zs.length ≤ 1000000 then some { val := .int .u64 (Tryz.toU (Tryz.upto (Tryz.bw zs) zs.length)), rd } else none
        | none => none
      | none => none
    | _ => none
  else none

theorem Tryz.X_ok (G : Nat → Option (List AV)) : CallOk Tryz.prog G Tryz.X := by
  intro f args p L r h
  unfold Tryz.X at h
  split at h
  · rename_i hf
    subst hf
    split at h
    · rename_i x
      split at h
      · rename_i ys rd hel
        split at h
        · rename_i zs hz
          split at h
          · rename_i hlen
            simp only [Option.some.injEq] at h; subst h
            have hys := intsOf_spec hz
            subst hys
            refine ⟨elemsS L x, CallRel.of_below Tryz.func148 (by kernel_rfl) (by kernel_rfl) ?_, elemsS_ok, (elemsS_elems hel elemsS_ok).2⟩
            intro own E w σ vs hS hi hr
            simp only [RepL] at hr
            obtain ⟨v, _, rfl, hv, rfl⟩ := hr
            obtain ⟨a, cap, rfl, hle, hrow⟩ := ints_row hi hv (elemsS_elems hel hS).1
            have hI : Tryz.U32s w.heap.size w (.slice a zs.length cap) zs := by
              rcases hrow with rfl | ⟨b, o, rfl, hb, hc⟩
              · exact .inl ⟨a, cap, rfl, rfl⟩
              · exact .inr ⟨b, o, cap, rfl, hb, hc⟩
            refine (callsIn_wide (n := 3)).1 ((Tryz.toUint_in Fence.wide 3 trivial trivial trivial rfl (by omega) a zs.length cap zs (by omega) w hI).mono ?_)
            rintro e W' ⟨rfl, hB⟩
            exact ⟨_, rfl, hB, fun E w => by simp only [Rep]⟩
          · simp at h
        · simp at h
      · simp at h
    · simp at h
  · simp at h

end Go.Proofs
