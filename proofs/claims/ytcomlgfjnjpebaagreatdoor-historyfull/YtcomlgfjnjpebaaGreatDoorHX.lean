/- No further contracts for the evaluator. -/
import Derived.Test.YtcomlgfjnjpebaaGreatDoorVL23
import Derived.Test.YtcomlgfjnjpebaaGreatDoorProg
namespace Go.Proofs
open Go.VL

def Tryz.X : FuncId → List AV → Go.VL.Id → LStore → Option Res := fun _ _ _ _ => none
theorem Tryz.X_ok (G : Nat → Option (List AV)) : CallOk Tryz.prog G Tryz.X := fun _ _ _ _ _ h => by simp [Tryz.X] at h

end Go.Proofs
