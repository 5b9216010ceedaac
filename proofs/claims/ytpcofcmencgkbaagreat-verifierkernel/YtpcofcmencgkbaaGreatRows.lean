/-
  No cell of these rows narrows 'for every input' (looked for: loops, veiled, ifaces, maps, wideKeys, modest, calm, conditions, laid).
  DERIVED. THE GIVEN ROWS OF THIS SEAT. 9 by the template 'for every input the law returns true; each argument reads behind the call as it read before'; 0 by the template 'total and deterministic' (their statements: YtpcofcmencgkbaaGreatTotals.lean).
  GIVEN WITH THE SEED: the statements are not yours to turn. If you find one false, say at which input.
  Laid BY PROGRAM, IN A SANDBOX (cutbox-rows.mjs): the forced cells as the released guide's own fill.sh prints them over the translation afc05720456e39e5… (all of the seat's roots in one cut). By AI agents, Wed Nov 11 2026. No macro, syntax, notation, axiom, sorry.
-/
import Derived.Test.YtpcofcmencgkbaaGreatChecked
import GoSem.Claim
import GoSem.ClaimJoined
import GoSem.ClaimMapViews
import Derived.JoinedTies
import Derived.KernelRfl
namespace Go.Proofs.YtpcofcmencgkbaaGreat
/- THE CELL 'sum', in the pinned program and in every row, IS THE sha256 OF THE DUMP (.gsa) THAT YtpcofcmencgkbaaGreatProg.lean LOADS. Nothing in Lean hashes anything: it is a label: what it is worth is what the hold of that sum in a sandbox is worth. -/
noncomputable def Tryz.pinned : Pinned := { name := "ytpcofcmencgkbaagreat", sum := "afc05720456e39e5d5f34b35649d7d70de6526170ffc2e80d28a9d61d6fd251a", checked := Tryz.checked }
namespace Rows
def none {H : Type} : Left H := { results := [], args := [] }

/-- 'setsquarelaw30.VerifierRank': WHATEVER THE INPUT: true; the input reads as it did. -/
def verifierRankSpec : ChangeSpec := { name := "verifierRank", fn := fun _ => fun
  | [d1, d2, d3] => { results := [.lit (.bool true)], args := [d1, d2, d3] }
  | _ => none }
def verifierRankRow : OpenClaim := { program := "ytpcofcmencgkbaagreat", sum := "afc05720456e39e5d5f34b35649d7d70de6526170ffc2e80d28a9d61d6fd251a", func := "setsquare/setsquarelaw30.VerifierRank", spec := "verifierRank", unfollowed := true, recurses := true, apart := false }
def VerifierRankSaid : Prop := verifierRankRow.holds Tryz.pinned (OpenSpec.ofChange verifierRankSpec)

/-- ITS FALSE NEIGHBOUR: 'it returns false'. Refute it at one input. -/
def verifierRankWrong : ChangeSpec := { name := "verifierRank", fn := fun _ => fun
  | [d1, d2, d3] => { results := [.lit (.bool false)], args := [d1, d2, d3] }
  | _ => none }
def VerifierRankWrongFalsely : Prop := verifierRankRow.holds Tryz.pinned (OpenSpec.ofChange verifierRankWrong)

/-- 'setsquarelaw30.VerifierProves': WHATEVER THE INPUT: true; the input reads as it did. -/
def verifierProvesSpec : ChangeSpec := { name := "verifierProves", fn := fun _ => fun
  | [d1, d2, d3] => { results := [.lit (.bool true)], args := [d1, d2, d3] }
  | _ => none }
def verifierProvesRow : OpenClaim := { program := "ytpcofcmencgkbaagreat", sum := "afc05720456e39e5d5f34b35649d7d70de6526170ffc2e80d28a9d61d6fd251a", func := "setsquare/setsquarelaw30.VerifierProves", spec := "verifierProves", unfollowed := true, recurses := true, apart := false }
def VerifierProvesSaid : Prop := verifierProvesRow.holds Tryz.pinned (OpenSpec.ofChange verifierProvesSpec)

/-- ITS FALSE NEIGHBOUR: 'it returns false'. Refute it at one input. -/
def verifierProvesWrong : ChangeSpec := { name := "verifierProves", fn := fun _ => fun
  | [d1, d2, d3] => { results := [.lit (.bool false)], args := [d1, d2, d3] }
  | _ => none }
def VerifierProvesWrongFalsely : Prop := verifierProvesRow.holds Tryz.pinned (OpenSpec.ofChange verifierProvesWrong)

/-- 'setsquarelaw30.VerifierForeign': WHATEVER THE INPUT: true; the input reads as it did. -/
def verifierForeignSpec : ChangeSpec := { name := "verifierForeign", fn := fun _ => fun
  | [d1, d2, d3] => { results := [.lit (.bool true)], args := [d1, d2, d3] }
  | _ => none }
def verifierForeignRow : OpenClaim := { program := "ytpcofcmencgkbaagreat", sum := "afc05720456e39e5d5f34b35649d7d70de6526170ffc2e80d28a9d61d6fd251a", func := "setsquare/setsquarelaw30.VerifierForeign", spec := "verifierForeign", unfollowed := true, recurses := true, apart := false }
def VerifierForeignSaid : Prop := verifierForeignRow.holds Tryz.pinned (OpenSpec.ofChange verifierForeignSpec)

/-- ITS FALSE NEIGHBOUR: 'it returns false'. Refute it at one input. -/
def verifierForeignWrong : ChangeSpec := { name := "verifierForeign", fn := fun _ => fun
  | [d1, d2, d3] => { results := [.lit (.bool false)], args := [d1, d2, d3] }
  | _ => none }
def VerifierForeignWrongFalsely : Prop := verifierForeignRow.holds Tryz.pinned (OpenSpec.ofChange verifierForeignWrong)

/-- 'setsquarelaw29.FreedomCertify': WHATEVER THE INPUT: true; the input reads as it did. -/
def freedomCertifySpec : ChangeSpec := { name := "freedomCertify", fn := fun _ => fun
  | [d] => { results := [.lit (.bool true)], args := [d] }
  | _ => none }
def freedomCertifyRow : OpenClaim := { program := "ytpcofcmencgkbaagreat", sum := "afc05720456e39e5d5f34b35649d7d70de6526170ffc2e80d28a9d61d6fd251a", func := "setsquare/setsquarelaw29.FreedomCertify", spec := "freedomCertify", unfollowed := true, recurses := true, apart := false }
def FreedomCertifySaid : Prop := freedomCertifyRow.holds Tryz.pinned (OpenSpec.ofChange freedomCertifySpec)

/-- ITS FALSE NEIGHBOUR: 'it returns false'. Refute it at one input. -/
def freedomCertifyWrong : ChangeSpec := { name := "freedomCertify", fn := fun _ => fun
  | [d] => { results := [.lit (.bool false)], args := [d] }
  | _ => none }
def FreedomCertifyWrongFalsely : Prop := freedomCertifyRow.holds Tryz.pinned (OpenSpec.ofChange freedomCertifyWrong)

/-- 'setsquarelaw29.FreedomShape': WHATEVER THE INPUT: true; the input reads as it did. -/
def freedomShapeSpec : ChangeSpec := { name := "freedomShape", fn := fun _ => fun
  | [d1, d2, d3] => { results := [.lit (.bool true)], args := [d1, d2, d3] }
  | _ => none }
def freedomShapeRow : OpenClaim := { program := "ytpcofcmencgkbaagreat", sum := "afc05720456e39e5d5f34b35649d7d70de6526170ffc2e80d28a9d61d6fd251a", func := "setsquare/setsquarelaw29.FreedomShape", spec := "freedomShape", unfollowed := true, recurses := true, apart := false }
def FreedomShapeSaid : Prop := freedomShapeRow.holds Tryz.pinned (OpenSpec.ofChange freedomShapeSpec)

/-- ITS FALSE NEIGHBOUR: 'it returns false'. Refute it at one input. -/
def freedomShapeWrong : ChangeSpec := { name := "freedomShape", fn := fun _ => fun
  | [d1, d2, d3] => { results := [.lit (.bool false)], args := [d1, d2, d3] }
  | _ => none }
def FreedomShapeWrongFalsely : Prop := freedomShapeRow.holds Tryz.pinned (OpenSpec.ofChange freedomShapeWrong)

/-- 'setsquarelaw29.FreedomProves': WHATEVER THE INPUT: true; the input reads as it did. -/
def freedomProvesSpec : ChangeSpec := { name := "freedomProves", fn := fun _ => fun
  | [d] => { results := [.lit (.bool true)], args := [d] }
  | _ => none }
def freedomProvesRow : OpenClaim := { program := "ytpcofcmencgkbaagreat", sum := "afc05720456e39e5d5f34b35649d7d70de6526170ffc2e80d28a9d61d6fd251a", func := "setsquare/setsquarelaw29.FreedomProves", spec := "freedomProves", unfollowed := true, recurses := true, apart := false }
def FreedomProvesSaid : Prop := freedomProvesRow.holds Tryz.pinned (OpenSpec.ofChange freedomProvesSpec)

/-- ITS FALSE NEIGHBOUR: 'it returns false'. Refute it at one input. -/
def freedomProvesWrong : ChangeSpec := { name := "freedomProves", fn := fun _ => fun
  | [d] => { results := [.lit (.bool false)], args := [d] }
  | _ => none }
def FreedomProvesWrongFalsely : Prop := freedomProvesRow.holds Tryz.pinned (OpenSpec.ofChange freedomProvesWrong)

/-- 'setsquarelaw29.FreedomFurther': WHATEVER THE INPUT: true; the input reads as it did. -/
def freedomFurtherSpec : ChangeSpec := { name := "freedomFurther", fn := fun _ => fun
  | [d] => { results := [.lit (.bool true)], args := [d] }
  | _ => none }
def freedomFurtherRow : OpenClaim := { program := "ytpcofcmencgkbaagreat", sum := "afc05720456e39e5d5f34b35649d7d70de6526170ffc2e80d28a9d61d6fd251a", func := "setsquare/setsquarelaw29.FreedomFurther", spec := "freedomFurther", unfollowed := true, recurses := true, apart := false }
def FreedomFurtherSaid : Prop := freedomFurtherRow.holds Tryz.pinned (OpenSpec.ofChange freedomFurtherSpec)

/-- ITS FALSE NEIGHBOUR: 'it returns false'. Refute it at one input. -/
def freedomFurtherWrong : ChangeSpec := { name := "freedomFurther", fn := fun _ => fun
  | [d] => { results := [.lit (.bool false)], args := [d] }
  | _ => none }
def FreedomFurtherWrongFalsely : Prop := freedomFurtherRow.holds Tryz.pinned (OpenSpec.ofChange freedomFurtherWrong)

/-- 'setsquarelaw30.VerifierAccepts': WHATEVER THE INPUT: true; the input reads as it did. -/
def verifierAcceptsSpec : ChangeSpec := { name := "verifierAccepts", fn := fun _ => fun
  | [d1, d2] => { results := [.lit (.bool true)], args := [d1, d2] }
  | _ => none }
def verifierAcceptsRow : OpenClaim := { program := "ytpcofcmencgkbaagreat", sum := "afc05720456e39e5d5f34b35649d7d70de6526170ffc2e80d28a9d61d6fd251a", func := "setsquare/setsquarelaw30.VerifierAccepts", spec := "verifierAccepts", unfollowed := true, recurses := true, apart := false }
def VerifierAcceptsSaid : Prop := verifierAcceptsRow.holds Tryz.pinned (OpenSpec.ofChange verifierAcceptsSpec)

/-- ITS FALSE NEIGHBOUR: 'it returns false'. Refute it at one input. -/
def verifierAcceptsWrong : ChangeSpec := { name := "verifierAccepts", fn := fun _ => fun
  | [d1, d2] => { results := [.lit (.bool false)], args := [d1, d2] }
  | _ => none }
def VerifierAcceptsWrongFalsely : Prop := verifierAcceptsRow.holds Tryz.pinned (OpenSpec.ofChange verifierAcceptsWrong)

/-- 'setsquarelaw30.VerifierKernel': WHATEVER THE INPUT: true; the input reads as it did. -/
def verifierKernelSpec : ChangeSpec := { name := "verifierKernel", fn := fun _ => fun
  | [d1, d2] => { results := [.lit (.bool true)], args := [d1, d2] }
  | _ => none }
def verifierKernelRow : OpenClaim := { program := "ytpcofcmencgkbaagreat", sum := "afc05720456e39e5d5f34b35649d7d70de6526170ffc2e80d28a9d61d6fd251a", func := "setsquare/setsquarelaw30.VerifierKernel", spec := "verifierKernel", unfollowed := true, recurses := true, apart := false }
def VerifierKernelSaid : Prop := verifierKernelRow.holds Tryz.pinned (OpenSpec.ofChange verifierKernelSpec)

/-- ITS FALSE NEIGHBOUR: 'it returns false'. Refute it at one input. -/
def verifierKernelWrong : ChangeSpec := { name := "verifierKernel", fn := fun _ => fun
  | [d1, d2] => { results := [.lit (.bool false)], args := [d1, d2] }
  | _ => none }
def VerifierKernelWrongFalsely : Prop := verifierKernelRow.holds Tryz.pinned (OpenSpec.ofChange verifierKernelWrong)

/- THE SECOND FORM. 'bulk': how many values and letters a reading holds, each counted each time it is reached (what is shared counts as often as it is met; a slice's spare places count too). A statement '..UptoSaid' is the law's where the arguments, and the package variables that the reading takes, are together of bulk at most 1048576: NARROWER than '..Said'. Prove '..Said' where nothing that the law and all that it calls make is longer than what came in: it says more and counts as full. Else prove '..UptoSaid'. A law counts once. -/
mutual
def uptoBulk {H : Type} : DataW H → Nat
  | .lit (.string bytes) => bytes.length + 1
  | .lit _ => 1
  | .nil => 1
  | .ptr d => uptoBulk d + 1
  | .slice elems spare => uptoBulkAll elems + uptoBulkAll spare + 1
  | .agg parts => uptoBulkAll parts + 1
  | .iface _ d => uptoBulk d + 1
  | .map entries => uptoBulkEntries entries + 1
  | .held _ => 1
def uptoBulkAll {H : Type} : List (DataW H) → Nat
  | [] => 0
  | d :: r => uptoBulk d + uptoBulkAll r
def uptoBulkEntries {H : Type} : List (Lit × DataW H) → Nat
  | [] => 0
  | x :: r => uptoBulkEntry x + uptoBulkEntries r
def uptoBulkEntry {H : Type} : Lit × DataW H → Nat
  | (.string bytes, d) => bytes.length + uptoBulk d + 1
  | (_, d) => uptoBulk d + 1
 end
def uptoSmall : (H : Type) → List (DataW H) → Bool := fun _ ds => decide (uptoBulkAll ds ≤ 1048576)
def OpenSpec.upto (s : _root_.Go.ChangeSpec) : _root_.Go.OpenSpec := { _root_.Go.OpenSpec.ofChange s with cond := some uptoSmall }

/-- 'setsquarelaw30.VerifierRank', WHERE WHAT IT READS IS OF BULK AT MOST 1048576: true; the input reads as it did. -/
def verifierRankUptoRow : OpenClaim := { program := "ytpcofcmencgkbaagreat", sum := "afc05720456e39e5d5f34b35649d7d70de6526170ffc2e80d28a9d61d6fd251a", func := "setsquare/setsquarelaw30.VerifierRank", spec := "verifierRank", unfollowed := true, recurses := true, apart := false, narrowed := true }
def VerifierRankUptoSaid : Prop := verifierRankUptoRow.holds Tryz.pinned (OpenSpec.upto verifierRankSpec)

/-- 'setsquarelaw30.VerifierProves', WHERE WHAT IT READS IS OF BULK AT MOST 1048576: true; the input reads as it did. -/
def verifierProvesUptoRow : OpenClaim := { program := "ytpcofcmencgkbaagreat", sum := "afc05720456e39e5d5f34b35649d7d70de6526170ffc2e80d28a9d61d6fd251a", func := "setsquare/setsquarelaw30.VerifierProves", spec := "verifierProves", unfollowed := true, recurses := true, apart := false, narrowed := true }
def VerifierProvesUptoSaid : Prop := verifierProvesUptoRow.holds Tryz.pinned (OpenSpec.upto verifierProvesSpec)

/-- 'setsquarelaw30.VerifierForeign', WHERE WHAT IT READS IS OF BULK AT MOST 1048576: true; the input reads as it did. -/
def verifierForeignUptoRow : OpenClaim := { program := "ytpcofcmencgkbaagreat", sum := "afc05720456e39e5d5f34b35649d7d70de6526170ffc2e80d28a9d61d6fd251a", func := "setsquare/setsquarelaw30.VerifierForeign", spec := "verifierForeign", unfollowed := true, recurses := true, apart := false, narrowed := true }
def VerifierForeignUptoSaid : Prop := verifierForeignUptoRow.holds Tryz.pinned (OpenSpec.upto verifierForeignSpec)

/-- 'setsquarelaw29.FreedomCertify', WHERE WHAT IT READS IS OF BULK AT MOST 1048576: true; the input reads as it did. -/
def freedomCertifyUptoRow : OpenClaim := { program := "ytpcofcmencgkbaagreat", sum := "afc05720456e39e5d5f34b35649d7d70de6526170ffc2e80d28a9d61d6fd251a", func := "setsquare/setsquarelaw29.FreedomCertify", spec := "freedomCertify", unfollowed := true, recurses := true, apart := false, narrowed := true }
def FreedomCertifyUptoSaid : Prop := freedomCertifyUptoRow.holds Tryz.pinned (OpenSpec.upto freedomCertifySpec)

/-- 'setsquarelaw29.FreedomShape', WHERE WHAT IT READS IS OF BULK AT MOST 1048576: true; the input reads as it did. -/
def freedomShapeUptoRow : OpenClaim := { program := "ytpcofcmencgkbaagreat", sum := "afc05720456e39e5d5f34b35649d7d70de6526170ffc2e80d28a9d61d6fd251a", func := "setsquare/setsquarelaw29.FreedomShape", spec := "freedomShape", unfollowed := true, recurses := true, apart := false, narrowed := true }
def FreedomShapeUptoSaid : Prop := freedomShapeUptoRow.holds Tryz.pinned (OpenSpec.upto freedomShapeSpec)

/-- 'setsquarelaw29.FreedomProves', WHERE WHAT IT READS IS OF BULK AT MOST 1048576: true; the input reads as it did. -/
def freedomProvesUptoRow : OpenClaim := { program := "ytpcofcmencgkbaagreat", sum := "afc05720456e39e5d5f34b35649d7d70de6526170ffc2e80d28a9d61d6fd251a", func := "setsquare/setsquarelaw29.FreedomProves", spec := "freedomProves", unfollowed := true, recurses := true, apart := false, narrowed := true }
def FreedomProvesUptoSaid : Prop := freedomProvesUptoRow.holds Tryz.pinned (OpenSpec.upto freedomProvesSpec)

/-- 'setsquarelaw29.FreedomFurther', WHERE WHAT IT READS IS OF BULK AT MOST 1048576: true; the input reads as it did. -/
def freedomFurtherUptoRow : OpenClaim := { program := "ytpcofcmencgkbaagreat", sum := "afc05720456e39e5d5f34b35649d7d70de6526170ffc2e80d28a9d61d6fd251a", func := "setsquare/setsquarelaw29.FreedomFurther", spec := "freedomFurther", unfollowed := true, recurses := true, apart := false, narrowed := true }
def FreedomFurtherUptoSaid : Prop := freedomFurtherUptoRow.holds Tryz.pinned (OpenSpec.upto freedomFurtherSpec)

/-- 'setsquarelaw30.VerifierAccepts', WHERE WHAT IT READS IS OF BULK AT MOST 1048576: true; the input reads as it did. -/
def verifierAcceptsUptoRow : OpenClaim := { program := "ytpcofcmencgkbaagreat", sum := "afc05720456e39e5d5f34b35649d7d70de6526170ffc2e80d28a9d61d6fd251a", func := "setsquare/setsquarelaw30.VerifierAccepts", spec := "verifierAccepts", unfollowed := true, recurses := true, apart := false, narrowed := true }
def VerifierAcceptsUptoSaid : Prop := verifierAcceptsUptoRow.holds Tryz.pinned (OpenSpec.upto verifierAcceptsSpec)

/-- 'setsquarelaw30.VerifierKernel', WHERE WHAT IT READS IS OF BULK AT MOST 1048576: true; the input reads as it did. -/
def verifierKernelUptoRow : OpenClaim := { program := "ytpcofcmencgkbaagreat", sum := "afc05720456e39e5d5f34b35649d7d70de6526170ffc2e80d28a9d61d6fd251a", func := "setsquare/setsquarelaw30.VerifierKernel", spec := "verifierKernel", unfollowed := true, recurses := true, apart := false, narrowed := true }
def VerifierKernelUptoSaid : Prop := verifierKernelUptoRow.holds Tryz.pinned (OpenSpec.upto verifierKernelSpec)

end Rows
end Go.Proofs.YtpcofcmencgkbaaGreat
