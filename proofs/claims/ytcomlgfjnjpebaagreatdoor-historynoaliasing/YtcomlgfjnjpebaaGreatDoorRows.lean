/-
  NARROWER THAN 'FOR EVERY INPUT', by the rows' own cells (each row's printed sentence says how): HistoryNeeds: loops, laid · HistoryFull: laid · HistoryOps: loops, laid · HistoryValid: loops, laid · HistoryUndoAll: loops, laid · HistoryNoAliasing: loops, laid.
  DERIVED. THE GIVEN ROWS OF THIS SEAT. 6 by the template 'for every input the law returns true; each argument reads behind the call as it read before'; 0 by the template 'total and deterministic' (their statements: YtcomlgfjnjpebaaGreatDoorTotals.lean).
  GIVEN WITH THE SEED: the statements are not yours to turn. If you find one false, say at which input.
  Laid BY PROGRAM, IN A SANDBOX (cutbox-rows.mjs): the forced cells as the released guide's own fill.sh prints them over the translation c761cc11fa816f7b… (all of the seat's roots in one cut). By AI agents, Wed Nov 11 2026. No macro, syntax, notation, axiom, sorry.
-/
import Derived.Test.YtcomlgfjnjpebaaGreatDoorChecked
import GoSem.Claim
import GoSem.ClaimJoined
import GoSem.ClaimMapViews
import Derived.JoinedTies
import Derived.KernelRfl
namespace Go.Proofs.YtcomlgfjnjpebaaGreatDoor
/- THE CELL 'sum', in the pinned program and in every row, IS THE sha256 OF THE DUMP (.gsa) THAT YtcomlgfjnjpebaaGreatDoorProg.lean LOADS. Nothing in Lean hashes anything: it is a label: what it is worth is what the hold of that sum in a sandbox is worth. -/
noncomputable def Tryz.pinned : Pinned := { name := "ytcomlgfjnjpebaagreatdoor", sum := "c761cc11fa816f7be7fa7596703b027e5ff05679ca088d7c39e4a798cf350e5e", checked := Tryz.checked }
namespace Rows
def none {H : Type} : Left H := { results := [], args := [] }

/- WHAT THE LISTED PACKAGE-LEVEL VARIABLES READ AS WHEN THE CALL BEGINS. Each datum BY PROGRAM (the guide's laid-datum.mjs) off the statement by which the dump's own 'gosem.cut.vars' lays the variable. In a bare row this is a premise. The card (YtcomlgfjnjpebaaGreatDoorCards.lean) ties it to the program's text. -/
def laid_math_bits_deBruijn32tab {H : Type} : DataW H := .agg [.lit (.int .u8 0), .lit (.int .u8 1), .lit (.int .u8 28), .lit (.int .u8 2), .lit (.int .u8 29), .lit (.int .u8 14), .lit (.int .u8 24), .lit (.int .u8 3), .lit (.int .u8 30), .lit (.int .u8 22), .lit (.int .u8 20), .lit (.int .u8 15), .lit (.int .u8 25), .lit (.int .u8 17), .lit (.int .u8 4), .lit (.int .u8 8), .lit (.int .u8 31), .lit (.int .u8 27), .lit (.int .u8 13), .lit (.int .u8 23), .lit (.int .u8 21), .lit (.int .u8 19), .lit (.int .u8 16), .lit (.int .u8 7), .lit (.int .u8 26), .lit (.int .u8 12), .lit (.int .u8 18), .lit (.int .u8 6), .lit (.int .u8 11), .lit (.int .u8 5), .lit (.int .u8 10), .lit (.int .u8 9)]
def laid_math_bits_deBruijn64tab {H : Type} : DataW H := .agg [.lit (.int .u8 0), .lit (.int .u8 1), .lit (.int .u8 56), .lit (.int .u8 2), .lit (.int .u8 57), .lit (.int .u8 49), .lit (.int .u8 28), .lit (.int .u8 3), .lit (.int .u8 61), .lit (.int .u8 58), .lit (.int .u8 42), .lit (.int .u8 50), .lit (.int .u8 38), .lit (.int .u8 29), .lit (.int .u8 17), .lit (.int .u8 4), .lit (.int .u8 62), .lit (.int .u8 47), .lit (.int .u8 59), .lit (.int .u8 36), .lit (.int .u8 45), .lit (.int .u8 43), .lit (.int .u8 51), .lit (.int .u8 22), .lit (.int .u8 53), .lit (.int .u8 39), .lit (.int .u8 33), .lit (.int .u8 30), .lit (.int .u8 24), .lit (.int .u8 18), .lit (.int .u8 12), .lit (.int .u8 5), .lit (.int .u8 63), .lit (.int .u8 55), .lit (.int .u8 48), .lit (.int .u8 27), .lit (.int .u8 60), .lit (.int .u8 41), .lit (.int .u8 37), .lit (.int .u8 16), .lit (.int .u8 46), .lit (.int .u8 35), .lit (.int .u8 44), .lit (.int .u8 21), .lit (.int .u8 52), .lit (.int .u8 32), .lit (.int .u8 23), .lit (.int .u8 11), .lit (.int .u8 54), .lit (.int .u8 26), .lit (.int .u8 40), .lit (.int .u8 15), .lit (.int .u8 34), .lit (.int .u8 20), .lit (.int .u8 31), .lit (.int .u8 10), .lit (.int .u8 25), .lit (.int .u8 14), .lit (.int .u8 19), .lit (.int .u8 9), .lit (.int .u8 13), .lit (.int .u8 8), .lit (.int .u8 7), .lit (.int .u8 6)]
def laid_internal_strconv_uint64pow10 {H : Type} : DataW H := .agg [.lit (.int .u64 1), .lit (.int .u64 10), .lit (.int .u64 100), .lit (.int .u64 1000), .lit (.int .u64 10000), .lit (.int .u64 100000), .lit (.int .u64 1000000), .lit (.int .u64 10000000), .lit (.int .u64 100000000), .lit (.int .u64 1000000000), .lit (.int .u64 10000000000), .lit (.int .u64 100000000000), .lit (.int .u64 1000000000000), .lit (.int .u64 10000000000000), .lit (.int .u64 100000000000000), .lit (.int .u64 1000000000000000), .lit (.int .u64 10000000000000000), .lit (.int .u64 100000000000000000), .lit (.int .u64 1000000000000000000), .lit (.int .u64 10000000000000000000)]
def laid_setsquare_formula_operands {H : Type} : DataW H := .agg [.lit (.int .i64 0), .lit (.int .i64 0), .lit (.int .i64 0), .lit (.int .i64 1), .lit (.int .i64 2), .lit (.int .i64 2), .lit (.int .i64 2), .lit (.int .i64 2)]

/-- 'setsquarelaw53.HistoryNeeds': WHATEVER THE INPUT: true; the input reads as it did. -/
def historyNeedsSpec : ChangeSpec := { name := "historyNeeds", fn := fun _ => fun
  | [d] => { results := [.lit (.bool true)], args := [d] }
  | _ => none }
def historyNeedsRow : OpenClaim := { program := "ytcomlgfjnjpebaagreatdoor", sum := "c761cc11fa816f7be7fa7596703b027e5ff05679ca088d7c39e4a798cf350e5e", func := "setsquare/setsquarelaw53.HistoryNeeds", spec := "historyNeeds", inPlace := ["internal/bytealg.IndexByteString", "internal/bytealg.IndexString", "internal/abi.NoEscape", "internal/bytealg.MakeNoZero", "slices.overlaps[setsquare/api.Feature]"], unfollowed := true, recurses := true, named := ["internal/bytealg.MaxLen", "setsquare/formula.operands", "internal/strconv.uint64pow10", "math/bits.deBruijn32tab", "math/bits.deBruijn64tab"], loops := true, apart := false, laid := [("math/bits.deBruijn32tab", laid_math_bits_deBruijn32tab), ("math/bits.deBruijn64tab", laid_math_bits_deBruijn64tab), ("internal/strconv.uint64pow10", laid_internal_strconv_uint64pow10), ("setsquare/formula.operands", laid_setsquare_formula_operands)] }
def HistoryNeedsSaid : Prop := historyNeedsRow.holds Tryz.pinned (OpenSpec.ofChange historyNeedsSpec)

/-- ITS FALSE NEIGHBOUR: 'it returns false'. Refute it at one input. -/
def historyNeedsWrong : ChangeSpec := { name := "historyNeeds", fn := fun _ => fun
  | [d] => { results := [.lit (.bool false)], args := [d] }
  | _ => none }
def HistoryNeedsWrongFalsely : Prop := historyNeedsRow.holds Tryz.pinned (OpenSpec.ofChange historyNeedsWrong)

/-- 'setsquarelaw53.HistoryFull': WHATEVER THE INPUT: true; the input reads as it did. -/
def historyFullSpec : ChangeSpec := { name := "historyFull", fn := fun _ => fun
  | [d] => { results := [.lit (.bool true)], args := [d] }
  | _ => none }
def historyFullRow : OpenClaim := { program := "ytcomlgfjnjpebaagreatdoor", sum := "c761cc11fa816f7be7fa7596703b027e5ff05679ca088d7c39e4a798cf350e5e", func := "setsquare/setsquarelaw53.HistoryFull", spec := "historyFull", inPlace := ["internal/bytealg.IndexByteString", "internal/bytealg.IndexString", "internal/abi.NoEscape", "internal/bytealg.MakeNoZero", "slices.overlaps[setsquare/api.Feature]"], unfollowed := true, recurses := true, named := ["internal/bytealg.MaxLen", "setsquare/formula.operands", "internal/strconv.uint64pow10", "math/bits.deBruijn32tab", "math/bits.deBruijn64tab"], apart := false, laid := [("math/bits.deBruijn32tab", laid_math_bits_deBruijn32tab), ("math/bits.deBruijn64tab", laid_math_bits_deBruijn64tab), ("internal/strconv.uint64pow10", laid_internal_strconv_uint64pow10), ("setsquare/formula.operands", laid_setsquare_formula_operands)] }
def HistoryFullSaid : Prop := historyFullRow.holds Tryz.pinned (OpenSpec.ofChange historyFullSpec)

/-- ITS FALSE NEIGHBOUR: 'it returns false'. Refute it at one input. -/
def historyFullWrong : ChangeSpec := { name := "historyFull", fn := fun _ => fun
  | [d] => { results := [.lit (.bool false)], args := [d] }
  | _ => none }
def HistoryFullWrongFalsely : Prop := historyFullRow.holds Tryz.pinned (OpenSpec.ofChange historyFullWrong)

/-- 'setsquarelaw53.HistoryOps': WHATEVER THE INPUT: true; the input reads as it did. -/
def historyOpsSpec : ChangeSpec := { name := "historyOps", fn := fun _ => fun
  | [d] => { results := [.lit (.bool true)], args := [d] }
  | _ => none }
def historyOpsRow : OpenClaim := { program := "ytcomlgfjnjpebaagreatdoor", sum := "c761cc11fa816f7be7fa7596703b027e5ff05679ca088d7c39e4a798cf350e5e", func := "setsquare/setsquarelaw53.HistoryOps", spec := "historyOps", inPlace := ["internal/bytealg.IndexByteString", "internal/bytealg.IndexString", "internal/abi.NoEscape", "internal/bytealg.MakeNoZero", "slices.overlaps[setsquare/api.Feature]"], unfollowed := true, recurses := true, named := ["internal/bytealg.MaxLen", "setsquare/formula.operands", "internal/strconv.uint64pow10", "math/bits.deBruijn32tab", "math/bits.deBruijn64tab"], loops := true, apart := false, laid := [("math/bits.deBruijn32tab", laid_math_bits_deBruijn32tab), ("math/bits.deBruijn64tab", laid_math_bits_deBruijn64tab), ("internal/strconv.uint64pow10", laid_internal_strconv_uint64pow10), ("setsquare/formula.operands", laid_setsquare_formula_operands)] }
def HistoryOpsSaid : Prop := historyOpsRow.holds Tryz.pinned (OpenSpec.ofChange historyOpsSpec)

/-- ITS FALSE NEIGHBOUR: 'it returns false'. Refute it at one input. -/
def historyOpsWrong : ChangeSpec := { name := "historyOps", fn := fun _ => fun
  | [d] => { results := [.lit (.bool false)], args := [d] }
  | _ => none }
def HistoryOpsWrongFalsely : Prop := historyOpsRow.holds Tryz.pinned (OpenSpec.ofChange historyOpsWrong)

/-- 'setsquarelaw53.HistoryValid': WHATEVER THE INPUT: true; the input reads as it did. -/
def historyValidSpec : ChangeSpec := { name := "historyValid", fn := fun _ => fun
  | [d] => { results := [.lit (.bool true)], args := [d] }
  | _ => none }
def historyValidRow : OpenClaim := { program := "ytcomlgfjnjpebaagreatdoor", sum := "c761cc11fa816f7be7fa7596703b027e5ff05679ca088d7c39e4a798cf350e5e", func := "setsquare/setsquarelaw53.HistoryValid", spec := "historyValid", inPlace := ["internal/bytealg.IndexByteString", "internal/bytealg.IndexString", "internal/abi.NoEscape", "internal/bytealg.MakeNoZero", "slices.overlaps[setsquare/api.Feature]"], unfollowed := true, recurses := true, named := ["internal/bytealg.MaxLen", "setsquare/formula.operands", "internal/strconv.uint64pow10", "math/bits.deBruijn32tab", "math/bits.deBruijn64tab"], loops := true, apart := false, laid := [("math/bits.deBruijn32tab", laid_math_bits_deBruijn32tab), ("math/bits.deBruijn64tab", laid_math_bits_deBruijn64tab), ("internal/strconv.uint64pow10", laid_internal_strconv_uint64pow10), ("setsquare/formula.operands", laid_setsquare_formula_operands)] }
def HistoryValidSaid : Prop := historyValidRow.holds Tryz.pinned (OpenSpec.ofChange historyValidSpec)

/-- ITS FALSE NEIGHBOUR: 'it returns false'. Refute it at one input. -/
def historyValidWrong : ChangeSpec := { name := "historyValid", fn := fun _ => fun
  | [d] => { results := [.lit (.bool false)], args := [d] }
  | _ => none }
def HistoryValidWrongFalsely : Prop := historyValidRow.holds Tryz.pinned (OpenSpec.ofChange historyValidWrong)

/-- 'setsquarelaw53.HistoryUndoAll': WHATEVER THE INPUT: true; the input reads as it did. -/
def historyUndoAllSpec : ChangeSpec := { name := "historyUndoAll", fn := fun _ => fun
  | [d] => { results := [.lit (.bool true)], args := [d] }
  | _ => none }
def historyUndoAllRow : OpenClaim := { program := "ytcomlgfjnjpebaagreatdoor", sum := "c761cc11fa816f7be7fa7596703b027e5ff05679ca088d7c39e4a798cf350e5e", func := "setsquare/setsquarelaw53.HistoryUndoAll", spec := "historyUndoAll", inPlace := ["internal/bytealg.IndexByteString", "internal/bytealg.IndexString", "internal/abi.NoEscape", "internal/bytealg.MakeNoZero", "slices.overlaps[setsquare/api.Feature]"], unfollowed := true, recurses := true, named := ["internal/bytealg.MaxLen", "setsquare/formula.operands", "internal/strconv.uint64pow10", "math/bits.deBruijn32tab", "math/bits.deBruijn64tab"], loops := true, apart := false, laid := [("math/bits.deBruijn32tab", laid_math_bits_deBruijn32tab), ("math/bits.deBruijn64tab", laid_math_bits_deBruijn64tab), ("internal/strconv.uint64pow10", laid_internal_strconv_uint64pow10), ("setsquare/formula.operands", laid_setsquare_formula_operands)] }
def HistoryUndoAllSaid : Prop := historyUndoAllRow.holds Tryz.pinned (OpenSpec.ofChange historyUndoAllSpec)

/-- ITS FALSE NEIGHBOUR: 'it returns false'. Refute it at one input. -/
def historyUndoAllWrong : ChangeSpec := { name := "historyUndoAll", fn := fun _ => fun
  | [d] => { results := [.lit (.bool false)], args := [d] }
  | _ => none }
def HistoryUndoAllWrongFalsely : Prop := historyUndoAllRow.holds Tryz.pinned (OpenSpec.ofChange historyUndoAllWrong)

/-- 'setsquarelaw53.HistoryNoAliasing': WHATEVER THE INPUT: true; the input reads as it did. -/
def historyNoAliasingSpec : ChangeSpec := { name := "historyNoAliasing", fn := fun _ => fun
  | [d1, d2] => { results := [.lit (.bool true)], args := [d1, d2] }
  | _ => none }
def historyNoAliasingRow : OpenClaim := { program := "ytcomlgfjnjpebaagreatdoor", sum := "c761cc11fa816f7be7fa7596703b027e5ff05679ca088d7c39e4a798cf350e5e", func := "setsquare/setsquarelaw53.HistoryNoAliasing", spec := "historyNoAliasing", inPlace := ["internal/bytealg.IndexByteString", "internal/bytealg.IndexString", "internal/abi.NoEscape", "internal/bytealg.MakeNoZero", "slices.overlaps[setsquare/api.Feature]"], unfollowed := true, recurses := true, named := ["internal/bytealg.MaxLen", "setsquare/formula.operands", "internal/strconv.uint64pow10", "math/bits.deBruijn32tab", "math/bits.deBruijn64tab"], loops := true, apart := false, laid := [("math/bits.deBruijn32tab", laid_math_bits_deBruijn32tab), ("math/bits.deBruijn64tab", laid_math_bits_deBruijn64tab), ("internal/strconv.uint64pow10", laid_internal_strconv_uint64pow10), ("setsquare/formula.operands", laid_setsquare_formula_operands)] }
def HistoryNoAliasingSaid : Prop := historyNoAliasingRow.holds Tryz.pinned (OpenSpec.ofChange historyNoAliasingSpec)

/-- ITS FALSE NEIGHBOUR: 'it returns false'. Refute it at one input. -/
def historyNoAliasingWrong : ChangeSpec := { name := "historyNoAliasing", fn := fun _ => fun
  | [d1, d2] => { results := [.lit (.bool false)], args := [d1, d2] }
  | _ => none }
def HistoryNoAliasingWrongFalsely : Prop := historyNoAliasingRow.holds Tryz.pinned (OpenSpec.ofChange historyNoAliasingWrong)

/- THE SECOND FORM. 'bulk': how many values and letters a reading holds, each counted each time it is reached (what is shared counts as often as it is met; a slice's spare places count too). A statement '..UptoSaid' is the law's where the arguments, and the package variables that the reading takes, are together of bulk at most 1048576: NARROWER than '..Said'. Prove '..Said' where nothing that the law and all that it calls make is longer than what came in: it says more and counts as full. Else prove '..UptoSaid'. A law counts once. -/
mutual
def uptoBulk {H : Type} : DataW H → Nat
  | .lit (.string bytes) => bytes.length + 1
  | .lit _ => 1
  | .nil => 1
  | .ptr d => uptoBulk d + 1
  | .slice elems spare => uptoBulkAll elems + uptoBulkAll spare + 1
  | .agg parts => uptoBulkAll parts + 1
  | .iface _ d => uptoBulk d + 1
  | .map entries => uptoBulkEntries entries + 1
  | .held _ => 1
def uptoBulkAll {H : Type} : List (DataW H) → Nat
  | [] => 0
  | d :: r => uptoBulk d + uptoBulkAll r
def uptoBulkEntries {H : Type} : List (Lit × DataW H) → Nat
  | [] => 0
  | x :: r => uptoBulkEntry x + uptoBulkEntries r
def uptoBulkEntry {H : Type} : Lit × DataW H → Nat
  | (.string bytes, d) => bytes.length + uptoBulk d + 1
  | (_, d) => uptoBulk d + 1
 end
def uptoSmall : (H : Type) → List (DataW H) → Bool := fun _ ds => decide (uptoBulkAll ds ≤ 1048576)
def OpenSpec.upto (s : _root_.Go.ChangeSpec) : _root_.Go.OpenSpec := { _root_.Go.OpenSpec.ofChange s with cond := some uptoSmall }

/-- 'setsquarelaw53.HistoryNeeds', WHERE WHAT IT READS IS OF BULK AT MOST 1048576: true; the input reads as it did. -/
def historyNeedsUptoRow : OpenClaim := { program := "ytcomlgfjnjpebaagreatdoor", sum := "c761cc11fa816f7be7fa7596703b027e5ff05679ca088d7c39e4a798cf350e5e", func := "setsquare/setsquarelaw53.HistoryNeeds", spec := "historyNeeds", inPlace := ["internal/bytealg.IndexByteString", "internal/bytealg.IndexString", "internal/abi.NoEscape", "internal/bytealg.MakeNoZero", "slices.overlaps[setsquare/api.Feature]"], unfollowed := true, recurses := true, named := ["internal/bytealg.MaxLen", "setsquare/formula.operands", "internal/strconv.uint64pow10", "math/bits.deBruijn32tab", "math/bits.deBruijn64tab"], loops := true, apart := false, laid := [("math/bits.deBruijn32tab", laid_math_bits_deBruijn32tab), ("math/bits.deBruijn64tab", laid_math_bits_deBruijn64tab), ("internal/strconv.uint64pow10", laid_internal_strconv_uint64pow10), ("setsquare/formula.operands", laid_setsquare_formula_operands)], narrowed := true }
def HistoryNeedsUptoSaid : Prop := historyNeedsUptoRow.holds Tryz.pinned (OpenSpec.upto historyNeedsSpec)

/-- 'setsquarelaw53.HistoryFull', WHERE WHAT IT READS IS OF BULK AT MOST 1048576: true; the input reads as it did. -/
def historyFullUptoRow : OpenClaim := { program := "ytcomlgfjnjpebaagreatdoor", sum := "c761cc11fa816f7be7fa7596703b027e5ff05679ca088d7c39e4a798cf350e5e", func := "setsquare/setsquarelaw53.HistoryFull", spec := "historyFull", inPlace := ["internal/bytealg.IndexByteString", "internal/bytealg.IndexString", "internal/abi.NoEscape", "internal/bytealg.MakeNoZero", "slices.overlaps[setsquare/api.Feature]"], unfollowed := true, recurses := true, named := ["internal/bytealg.MaxLen", "setsquare/formula.operands", "internal/strconv.uint64pow10", "math/bits.deBruijn32tab", "math/bits.deBruijn64tab"], apart := false, laid := [("math/bits.deBruijn32tab", laid_math_bits_deBruijn32tab), ("math/bits.deBruijn64tab", laid_math_bits_deBruijn64tab), ("internal/strconv.uint64pow10", laid_internal_strconv_uint64pow10), ("setsquare/formula.operands", laid_setsquare_formula_operands)], narrowed := true }
def HistoryFullUptoSaid : Prop := historyFullUptoRow.holds Tryz.pinned (OpenSpec.upto historyFullSpec)

/-- 'setsquarelaw53.HistoryOps', WHERE WHAT IT READS IS OF BULK AT MOST 1048576: true; the input reads as it did. -/
def historyOpsUptoRow : OpenClaim := { program := "ytcomlgfjnjpebaagreatdoor", sum := "c761cc11fa816f7be7fa7596703b027e5ff05679ca088d7c39e4a798cf350e5e", func := "setsquare/setsquarelaw53.HistoryOps", spec := "historyOps", inPlace := ["internal/bytealg.IndexByteString", "internal/bytealg.IndexString", "internal/abi.NoEscape", "internal/bytealg.MakeNoZero", "slices.overlaps[setsquare/api.Feature]"], unfollowed := true, recurses := true, named := ["internal/bytealg.MaxLen", "setsquare/formula.operands", "internal/strconv.uint64pow10", "math/bits.deBruijn32tab", "math/bits.deBruijn64tab"], loops := true, apart := false, laid := [("math/bits.deBruijn32tab", laid_math_bits_deBruijn32tab), ("math/bits.deBruijn64tab", laid_math_bits_deBruijn64tab), ("internal/strconv.uint64pow10", laid_internal_strconv_uint64pow10), ("setsquare/formula.operands", laid_setsquare_formula_operands)], narrowed := true }
def HistoryOpsUptoSaid : Prop := historyOpsUptoRow.holds Tryz.pinned (OpenSpec.upto historyOpsSpec)

/-- 'setsquarelaw53.HistoryValid', WHERE WHAT IT READS IS OF BULK AT MOST 1048576: true; the input reads as it did. -/
def historyValidUptoRow : OpenClaim := { program := "ytcomlgfjnjpebaagreatdoor", sum := "c761cc11fa816f7be7fa7596703b027e5ff05679ca088d7c39e4a798cf350e5e", func := "setsquare/setsquarelaw53.HistoryValid", spec := "historyValid", inPlace := ["internal/bytealg.IndexByteString", "internal/bytealg.IndexString", "internal/abi.NoEscape", "internal/bytealg.MakeNoZero", "slices.overlaps[setsquare/api.Feature]"], unfollowed := true, recurses := true, named := ["internal/bytealg.MaxLen", "setsquare/formula.operands", "internal/strconv.uint64pow10", "math/bits.deBruijn32tab", "math/bits.deBruijn64tab"], loops := true, apart := false, laid := [("math/bits.deBruijn32tab", laid_math_bits_deBruijn32tab), ("math/bits.deBruijn64tab", laid_math_bits_deBruijn64tab), ("internal/strconv.uint64pow10", laid_internal_strconv_uint64pow10), ("setsquare/formula.operands", laid_setsquare_formula_operands)], narrowed := true }
def HistoryValidUptoSaid : Prop := historyValidUptoRow.holds Tryz.pinned (OpenSpec.upto historyValidSpec)

/-- 'setsquarelaw53.HistoryUndoAll', WHERE WHAT IT READS IS OF BULK AT MOST 1048576: true; the input reads as it did. -/
def historyUndoAllUptoRow : OpenClaim := { program := "ytcomlgfjnjpebaagreatdoor", sum := "c761cc11fa816f7be7fa7596703b027e5ff05679ca088d7c39e4a798cf350e5e", func := "setsquare/setsquarelaw53.HistoryUndoAll", spec := "historyUndoAll", inPlace := ["internal/bytealg.IndexByteString", "internal/bytealg.IndexString", "internal/abi.NoEscape", "internal/bytealg.MakeNoZero", "slices.overlaps[setsquare/api.Feature]"], unfollowed := true, recurses := true, named := ["internal/bytealg.MaxLen", "setsquare/formula.operands", "internal/strconv.uint64pow10", "math/bits.deBruijn32tab", "math/bits.deBruijn64tab"], loops := true, apart := false, laid := [("math/bits.deBruijn32tab", laid_math_bits_deBruijn32tab), ("math/bits.deBruijn64tab", laid_math_bits_deBruijn64tab), ("internal/strconv.uint64pow10", laid_internal_strconv_uint64pow10), ("setsquare/formula.operands", laid_setsquare_formula_operands)], narrowed := true }
def HistoryUndoAllUptoSaid : Prop := historyUndoAllUptoRow.holds Tryz.pinned (OpenSpec.upto historyUndoAllSpec)

/-- 'setsquarelaw53.HistoryNoAliasing', WHERE WHAT IT READS IS OF BULK AT MOST 1048576: true; the input reads as it did. -/
def historyNoAliasingUptoRow : OpenClaim := { program := "ytcomlgfjnjpebaagreatdoor", sum := "c761cc11fa816f7be7fa7596703b027e5ff05679ca088d7c39e4a798cf350e5e", func := "setsquare/setsquarelaw53.HistoryNoAliasing", spec := "historyNoAliasing", inPlace := ["internal/bytealg.IndexByteString", "internal/bytealg.IndexString", "internal/abi.NoEscape", "internal/bytealg.MakeNoZero", "slices.overlaps[setsquare/api.Feature]"], unfollowed := true, recurses := true, named := ["internal/bytealg.MaxLen", "setsquare/formula.operands", "internal/strconv.uint64pow10", "math/bits.deBruijn32tab", "math/bits.deBruijn64tab"], loops := true, apart := false, laid := [("math/bits.deBruijn32tab", laid_math_bits_deBruijn32tab), ("math/bits.deBruijn64tab", laid_math_bits_deBruijn64tab), ("internal/strconv.uint64pow10", laid_internal_strconv_uint64pow10), ("setsquare/formula.operands", laid_setsquare_formula_operands)], narrowed := true }
def HistoryNoAliasingUptoSaid : Prop := historyNoAliasingUptoRow.holds Tryz.pinned (OpenSpec.upto historyNoAliasingSpec)

end Rows
end Go.Proofs.YtcomlgfjnjpebaaGreatDoor
