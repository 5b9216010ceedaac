/- For every input, HistoryFull returns true, and its argument reads afterwards as it read before. Conditions: the card's (the listed package-level variables start as the program's text lays them). -/
import Derived.Test.YtcomlgfjnjpebaaGreatDoorRows
import Derived.Test.YtcomlgfjnjpebaaGreatDoorTie
import Derived.Test.YtcomlgfjnjpebaaGreatDoorCards
import Derived.Test.YtcomlgfjnjpebaaGreatDoorHF
import Derived.Test.YtcomlgfjnjpebaaGreatDoorVL30
import Derived.ProofKit
import Derived.LaidMore
import Derived.OpenShut
import Derived.DataShut
import Derived.Stop.Joined
import Derived.SevenTiedAt
namespace Go.Proofs.YtcomlgfjnjpebaaGreatDoor
open Go.ChangeShapes Go.WideShapes Go.ChangeAt Go.WideMaps Go.WideElems Go.RowKit

theorem Tryz.own : ownKnob Tryz.prog.godebug = none := by kernel_rfl
theorem Tryz.laidOut : laidOutB Tryz.prog = true := by kernel_rfl

theorem door_met (os : Os) (args : Array Value) : laidMetH Tryz.prog Rows.historyFullRow.laid ((World.doorLaid Tryz.prog 400 os).forCall (fun _ _ => 0) ⟨#[], args, []⟩).memory :=
  laidMetH_of_parts3 (fuel := 8) (laidMet_of_run' 8 (by kernel_rfl) (by kernel_rfl)) (by kernel_rfl) (by kernel_rfl)

set_option maxRecDepth 100000 in
theorem lifted (os : Os) (started : os.Started) (H : Type) (enc : TypeId × Value → H) :
    ReturnsInHanded {} Tryz.checked os 4 .any (fun w args => (Rows.historyFullSpec.pre enc Tryz.prog Tryz.f4 [] false w args ∧ laidMetH Tryz.prog Rows.historyFullRow.laid w) ∧ sizedMet enc Tryz.prog Tryz.f4 (OpenSpec.ofChange Rows.historyFullSpec) false w args)
      (Rows.historyFullSpec.post enc Tryz.prog Tryz.f4 false true false false) := by
  refine returnsInHanded_of_change_and (C := Tryz.checked) (X := fun w _ => laidMetH Tryz.prog Rows.historyFullRow.laid w) (fun _ _ _ hh h => h.of_heap hh) Tryz.own started (by kernel_rfl) Tryz.func4
    (ChangeSpec.witness_shaped (enc := enc) (C := Tryz.checked) (os := os) (X := fun w _ => laidMetH Tryz.prog Rows.historyFullRow.laid w) false (World.doorLaid Tryz.prog 400 os) #[.int .u8 0] 8 rfl (World.shaped_of_RefB (by kernel_rfl) (by kernel_rfl)) (by kernel_rfl) (by kernel_rfl) (by kernel_rfl) (door_met os _)) ?_
  intro W base args ds gs before hval0 hW _ _ hL _
  have hval : ∀ (j : Nat) t v, Tryz.f4.params[j]? = some t → args[j]? = some v → Value.okWide Tryz.prog W .any base t v := hval0
  have hW' := hW
  obtain ⟨p, q, hA0, hV, rfl, hfz, hnd⟩ := hW
  have hA : DataW.TrodAll enc Tryz.prog W 0 (fun _ => true) true Tryz.f4.params.toList args.toList ds p := hA0
  rw [Tryz.params4] at hA hval
  obtain ⟨v0, d0, rfl, rfl, h0⟩ := trodAll_one hA
  obtain ⟨rfl, rfl⟩ := trodVars_none hV
  obtain ⟨a, rfl, rfl, rfl, wa⟩ := open_int Tryz.underlying5 (hval 0 5 v0 rfl rfl) h0
  clear hA0 hval0
  have hb : 0 ≤ a ∧ a ≤ 255 := (Lit.wf_int_iff .u8 a).1 wa
  obtain ⟨m, rfl⟩ := Int.eq_ofNat_of_zero_le hb.1
  have hm : m < 256 := by omega
  refine (VL.law_of_call (ok := fun _ => False) (VL.CallRel.of_VP (law_vp m hm) (by simp [VL.PureAV.int]) []) rfl (by simp) (by simp) (vs := [.int .u8 (m : Int)]) (by simp [VL.RepL, VL.Rep])).mono fun e W' he => ?_
  obtain ⟨rfl, hB⟩ := he
  exact ⟨_, rfl, VL.post_law Tryz.laidOut (by rw [Tryz.params4]; intro t ht; simp at ht; subst ht; exact ⟨by kernel_rfl, by decide +kernel⟩) rfl rfl rfl (tb := 4) Tryz.underlying4 hW' hB⟩

theorem historyFull_row : Rows.HistoryFullSaid :=
  OpenClaim.holds_of_wide 4 Tryz.f4 rfl rfl rfl rfl rfl rfl rfl ⟨rfl, rfl, rfl, rfl, rfl⟩ rfl rfl rfl rfl rfl (by kernel_rfl) Tryz.func4 (by kernel_rfl)
    (of_decide_eq_true (by kernel_rfl)) (by unfold Func.isWrapper; first | (rw [if_pos (by decide +kernel)]; kernel_rfl) | (rw [if_neg (by decide +kernel)]; exact ⟨rfl, rfl⟩))
    (fun os started H enc _ => lifted os started H enc)

theorem historyFull_card : Rows.HistoryFullCardSaid :=
  Claim7.holds_tied_plain_at .later [] [.data, .data, .data, .data] true (true, "3d11a4bf1dee2d66407522a903d62afb625a42b086ed699c822710aab6d4fdf7") false
    historyFull_row (fun _ h => by cases h) (by kernel_rfl) (fun _ h => by cases h) historyFull_row_tie rfl ⟨rfl, rfl⟩ (by kernel_rfl) rfl
    (fun f fn hf hfn => by
      obtain rfl : f = 4 := Option.some.inj ((show Tryz.prog.funcNamed Tryz.f4.name = some 4 by kernel_rfl).symm.trans hf) |>.symm
      obtain rfl : fn = Tryz.f4 := (Option.some.inj (Tryz.func4.symm.trans hfn)).symm
      exact ⟨by kernel_rfl, fun j t ht => by
        rw [Tryz.params4] at ht
        have hm : t ∈ [5] := by simpa using Array.mem_of_getElem? ht
        have hall : ([5].all fun u => !Tryz.prog.wantsStandIn u) = true := by kernel_rfl
        exact (show Tryz.prog.wantsStandIn t = false by simpa using List.all_eq_true.1 hall t hm)⟩)
    (by kernel_rfl)

end Go.Proofs.YtcomlgfjnjpebaaGreatDoor
