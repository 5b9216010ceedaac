/-
  DERIVED. GIVEN WITH THE SEED: THE CARDS: each row of YtchdghnpcekegaaGreatDoorRows.lean that lists a variable, with what it lists TIED to the program's text (the seventh form; the later family's looks); each row that meets fmt, with fmt's text TOLD by the authors' own Lean function (tested against real Go, not proved from fmt's source: count such statements apart). THE CARD IS WHAT COUNTS. Prove the row's statement (the work); the ties are given (YtchdghnpcekegaaGreatDoorTie.lean); close each card by the builder's one call (the guide's Derived/Test/ToyasCard.lean, 'card_holds'). Laid BY PROGRAM, IN A SANDBOX (cutbox-door.mjs). By AI agents, Wed Nov 11 2026. No macro, syntax, notation, axiom, sorry.
-/
import Derived.Test.YtchdghnpcekegaaGreatDoorRows
import GoSem.ClaimSeven
namespace Go.Proofs.YtchdghnpcekegaaGreatDoor
namespace Rows

/-- THE TIED CARD OF 'setsquarelaw52.FeaturePattern'. -/
def featurePatternCard : Claim7 := { stood := { row := featurePatternRow, standIns := [], harness := (true, "27c8c76becc811b338fce23b8eeeb5b36281204e526538d98fa397e685b91503"), looks := false }, kinds := [], alts := [], laidByText := true, laidKinds := [.data, .data, .data], laidTests := true, laidLooks := .later }
def FeaturePatternCardSaid : Prop := Claim7.holds Tryz.pinned (.plain (OpenSpec.ofChange featurePatternSpec)) featurePatternCard

/-- THE TIED CARD OF 'setsquarelaw52.FeatureLimits'. -/
def featureLimitsCard : Claim7 := { stood := { row := featureLimitsRow, standIns := [], harness := (true, "27c8c76becc811b338fce23b8eeeb5b36281204e526538d98fa397e685b91503"), looks := false }, kinds := [], alts := [], laidByText := true, laidKinds := [.data, .data, .data], laidTests := true, laidLooks := .later }
def FeatureLimitsCardSaid : Prop := Claim7.holds Tryz.pinned (.plain (OpenSpec.ofChange featureLimitsSpec)) featureLimitsCard

/-- THE SECOND FORM's CARD OF 'setsquarelaw52.FeaturePattern'. -/
def featurePatternUptoCard : Claim7 := { stood := { row := featurePatternUptoRow, standIns := [], harness := (true, "27c8c76becc811b338fce23b8eeeb5b36281204e526538d98fa397e685b91503"), looks := false }, kinds := [], alts := [], laidByText := true, laidKinds := [.data, .data, .data], laidTests := true, laidLooks := .later }
def FeaturePatternUptoCardSaid : Prop := Claim7.holds Tryz.pinned (.plain (OpenSpec.upto featurePatternSpec)) featurePatternUptoCard

/-- THE SECOND FORM's CARD OF 'setsquarelaw52.FeatureLimits'. -/
def featureLimitsUptoCard : Claim7 := { stood := { row := featureLimitsUptoRow, standIns := [], harness := (true, "27c8c76becc811b338fce23b8eeeb5b36281204e526538d98fa397e685b91503"), looks := false }, kinds := [], alts := [], laidByText := true, laidKinds := [.data, .data, .data], laidTests := true, laidLooks := .later }
def FeatureLimitsUptoCardSaid : Prop := Claim7.holds Tryz.pinned (.plain (OpenSpec.upto featureLimitsSpec)) featureLimitsUptoCard
end Rows
end Go.Proofs.YtchdghnpcekegaaGreatDoor
