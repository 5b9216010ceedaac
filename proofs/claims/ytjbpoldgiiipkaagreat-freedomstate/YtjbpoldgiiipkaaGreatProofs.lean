/- For every input, FreedomState returns true, and its argument reads afterwards as it read before. Conditions: none. -/
import Derived.Test.YtjbpoldgiiipkaaGreatRows
import Derived.Test.YtjbpoldgiiipkaaGreatKn
import Derived.Test.YtjbpoldgiiipkaaGreatFS
import Derived.Test.YtjbpoldgiiipkaaGreatVL30
import Derived.ProofKit
import Derived.Lib.SmallJoins
namespace Go.Proofs.YtjbpoldgiiipkaaGreat
open Go.ChangeShapes Go.WideShapes Go.ChangeAt Go.RowKit Go.Joins Go.Deep

set_option maxRecDepth 100000 in
theorem awake_vp : VL.VP Tryz.prog (fun _ => none) 5 [] (.bool true) := VL.VP.of_memo m91_ok rfl rfl (VL.FlatAV.bool true)

theorem Tryz.own : ownKnob Tryz.prog.godebug = none := by kernel_rfl
theorem Tryz.laidOut : laidOutB Tryz.prog = true := by kernel_rfl

section
variable {H : Type} {enc : TypeId × Value → H} {P : Program} {w : World} {base : Nat} {spare : Nat → Bool} {held : Bool}
theorem open_agg5 {r : Reach} {b0 : Nat} {t : TypeId} {f0 f1 f2 f3 f4 : Field} {v : Value} {d : DataW H} {p : List MemPlace} (hs : P.underlying t = some (.struct #[f0, f1, f2, f3, f4])) (hone : oneCellFields P #[f0, f1, f2, f3, f4] = true) (hC : P.cellsOf t = 5)
    (hv : Value.okWide P w r b0 t v) (h : DataW.Trod enc P w base spare held t v d p) :
    ∃ (v0 v1 v2 v3 v4 : Value) (y0 y1 y2 y3 y4 : DataW H × List MemPlace) (n : Nat), v = .agg #[v0, v1, v2, v3, v4] ∧ d = .agg [y0.1, y1.1, y2.1, y3.1, y4.1] ∧ p = y0.2 ++ (y1.2 ++ (y2.2 ++ (y3.2 ++ y4.2))) ∧
      DataW.trod enc P w base spare held n f0.type [v0] = some y0 ∧ DataW.trod enc P w base spare held n f1.type [v1] = some y1 ∧ DataW.trod enc P w base spare held n f2.type [v2] = some y2 ∧ DataW.trod enc P w base spare held n f3.type [v3] = some y3 ∧ DataW.trod enc P w base spare held n f4.type [v4] = some y4 := by
  obtain ⟨cs, rfl, hsz⟩ := okWide_struct hs hv
  obtain ⟨l⟩ := cs
  match l, hsz.trans hC with
  | [c0, c1, c2, c3, c4], _ =>
    obtain ⟨fuel, hf⟩ := h
    obtain ⟨xs, n, _, hx, _, hlen, hg⟩ := DataW.trod_struct hs hf
    obtain ⟨o0, k0⟩ := hone_of hone 0 f0 rfl
    obtain ⟨o1, k1⟩ := hone_of hone 1 f1 rfl
    obtain ⟨o2, k2⟩ := hone_of hone 2 f2 rfl
    obtain ⟨o3, k3⟩ := hone_of hone 3 f3 rfl
    obtain ⟨o4, k4⟩ := hone_of hone 4 f4 rfl
    match xs, hlen with
    | [y0, y1, y2, y3, y4], _ =>
      simp only [Prod.mk.injEq] at hx
      exact ⟨c0, c1, c2, c3, c4, y0, y1, y2, y3, y4, n, rfl, by simpa using hx.1, by simpa using hx.2, by simpa [Value.cells, o0, k0] using hg 0 f0 rfl, by simpa [Value.cells, o1, k1] using hg 1 f1 rfl, by simpa [Value.cells, o2, k2] using hg 2 f2 rfl, by simpa [Value.cells, o3, k3] using hg 3 f3 rfl, by simpa [Value.cells, o4, k4] using hg 4 f4 rfl⟩
end

set_option maxRecDepth 100000 in
theorem lifted (os : Os) (started : os.Started) (H : Type) (enc : TypeId × Value → H) :
    ReturnsInHanded {} Tryz.checked os 3 .any (Rows.freedomStateSpec.pre6 enc Tryz.prog Tryz.f3 Rows.freedomStateRow.domain false) (Rows.freedomStateSpec.post enc Tryz.prog Tryz.f3 false true false false) := by
  refine returnsInHanded_of_change (C := Tryz.checked) Tryz.own started (by kernel_rfl) Tryz.func3
    (ChangeSpec.witness6 (enc := enc) (C := Tryz.checked) false ⟨#[], #[.agg #[.int .i64 0, .int .i64 0, .int .i64 0, .int .i64 0, .int .i64 0]], []⟩ 8 (by kernel_rfl) (by kernel_rfl) (by kernel_rfl) (by kernel_rfl)) ?_
  intro W base args ds gs before hval0 hW hcnd _
  have hval : ∀ (j : Nat) t v, Tryz.f3.params[j]? = some t → args[j]? = some v → Value.okWide Tryz.prog W .any base t v := hval0
  have hW' := hW
  obtain ⟨p, q, hA0, hV, rfl, hfz, hnd⟩ := hW
  have hA : DataW.TrodAll enc Tryz.prog W 0 (fun _ => true) true Tryz.f3.params.toList args.toList ds p := hA0
  rw [Tryz.params3] at hA hval
  obtain ⟨v0, d0, rfl, rfl, h0⟩ := trodAll_one hA
  obtain ⟨rfl, rfl⟩ := trodVars_none hV
  clear hA0 hval0
  have hv0 := hval 0 23 v0 rfl rfl
  obtain ⟨a0, a1, a2, a3, a4, y0, y1, y2, y3, y4, n, rfl, hd, hp, t0, t1, t2, t3, t4⟩ := open_agg5 (Tryz.underlying23) (by kernel_rfl) (by kernel_rfl) hv0 h0
  obtain ⟨n0, e0, _, _⟩ := DataW.trod_int Tryz.underlying3 t0
  obtain ⟨n1, e1, _, _⟩ := DataW.trod_int Tryz.underlying3 t1
  obtain ⟨n2, e2, _, _⟩ := DataW.trod_int Tryz.underlying3 t2
  obtain ⟨n3, e3, _, _⟩ := DataW.trod_int Tryz.underlying3 t3
  obtain ⟨n4, e4, _, _⟩ := DataW.trod_int Tryz.underlying3 t4
  simp only [List.cons.injEq, and_true] at e0 e1 e2 e3 e4
  subst e0 e1 e2 e3 e4
  refine (VL.law_of_call (ok := fun _ => False) (VL.CallRel.of_VP (law_vp awake_vp n0 n1 n2 n3 n4) (by simpa using VL.five_pure n0 n1 n2 n3 n4) []) rfl (by simp) (by simp) (vs := [.agg #[.int .i64 n0, .int .i64 n1, .int .i64 n2, .int .i64 n3, .int .i64 n4]]) (by simp [VL.RepL, VL.Rep, VL.five])).mono fun e W' he => ?_
  obtain ⟨rfl, hB⟩ := he
  exact ⟨_, rfl, VL.post_law Tryz.laidOut (by rw [Tryz.params3]; intro t ht; simp at ht; subst ht; exact ⟨by kernel_rfl, by decide +kernel⟩) rfl rfl rfl (tb := 4) Tryz.underlying4 hW' hB⟩

theorem freedomState_holds : Rows.FreedomStateSaid :=
  OpenClaim.holds_of_wide 3 Tryz.f3 rfl rfl rfl rfl rfl rfl rfl ⟨rfl, rfl, rfl, rfl, rfl⟩ rfl rfl rfl rfl rfl (by kernel_rfl) Tryz.func3 (by kernel_rfl)
    (of_decide_eq_true (by kernel_rfl)) (by unfold Func.isWrapper; first | (rw [if_pos (by decide +kernel)]; kernel_rfl) | (rw [if_neg (by decide +kernel)]; exact ⟨rfl, rfl⟩))
    (fun os started H enc _ => lifted os started H enc)

end Go.Proofs.YtjbpoldgiiipkaaGreat
