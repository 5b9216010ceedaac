/- For every input, HistoryNeeds returns true, and its argument reads afterwards as it read before. Conditions: the card's (the listed package-level variables start as the program's text lays them). -/
import Derived.Test.YtcomlgfjnjpebaaGreatDoorC09
import Derived.Lib.IndexMore
import Derived.Test.YtcomlgfjnjpebaaGreatDoorC05
import Derived.Sort.KeysCollected
import Derived.Sort.Walk0
import Derived.Lib.SlicesCompact
import Derived.Deep.Slices
import Derived.Test.YtcomlgfjnjpebaaGreatDoorProg
import Derived.KernelRfl
import Derived.OpenShut
import Derived.ProofKit
import Derived.Test.YtcomlgfjnjpebaaGreatDoorC03
import Derived.Test.YtcomlgfjnjpebaaGreatDoorRows
import Derived.Test.YtcomlgfjnjpebaaGreatDoorTie
import Derived.Test.YtcomlgfjnjpebaaGreatDoorCards
import Derived.Test.YtcomlgfjnjpebaaGreatDoorC04
import Derived.LaidMore
import Derived.DataShut
import Derived.Stop.Joined
import Derived.SevenTiedAt
import Derived.HandedShaped
import Derived.Lib.LaidU8
set_option linter.unusedSimpArgs false
set_option linter.unusedVariables false
section
set_option linter.unusedSimpArgs false
set_option linter.unusedVariables false
namespace Go.VL
def slash : List UInt8 → Option Nat
  | [] => none
  | b :: l => if b = 47 then some 0 else (slash l).map (· + 1)
theorem slash_lt : ∀ {s : List UInt8} {k : Nat}, slash s = some k → k < s.length
  | b :: l, k, h => by
    rw [slash] at h
    split at h
    · cases h; simp
    · obtain ⟨j, hj, rfl⟩ := Option.map_eq_some_iff.1 h
      have := slash_lt hj
      simp; omega
theorem slash_at : ∀ {s : List UInt8} {k : Nat}, slash s = some k → s[k]? = some 47
  | b :: l, k, h => by
    rw [slash] at h
    split at h
    · rename_i hb; cases h; subst hb; rfl
    · obtain ⟨j, hj, rfl⟩ := Option.map_eq_some_iff.1 h
      simpa using slash_at hj
theorem slash_before : ∀ {s : List UInt8} {k j : Nat}, slash s = some k → j < k → s[j]? ≠ some 47
  | b :: l, k, j, h, hj => by
    rw [slash] at h
    split at h
    · cases h; omega
    · rename_i hb
      obtain ⟨i, hi, rfl⟩ := Option.map_eq_some_iff.1 h
      cases j with
      | zero => simpa using hb
      | succ j => simpa using slash_before hi (show j < i by omega)
theorem slash_none : ∀ {s : List UInt8} {j : Nat}, slash s = none → s[j]? ≠ some 47
  | [], j, _ => by simp
  | b :: l, j, h => by
    rw [slash] at h
    split at h
    · cases h
    · rename_i hb
      have hl : slash l = none := by simpa using h
      cases j with
      | zero => simpa using hb
      | succ j => simpa using slash_none hl (j := j)
theorem index_slash : ∀ s : List UInt8, Lib.index s [47] = match slash s with | some k => (k : Int) | none => -1
  | [] => rfl
  | b :: l => by
    rw [Lib.index, slash, index_slash l]
    by_cases h : b = 47
    · subst h; rfl
    · have : ([47] : List UInt8).isPrefixOf (b :: l) = false := by
        have h' : ¬ (47 : UInt8) = b := fun e => h e.symm
        simp [List.isPrefixOf, h']
      rw [this, if_neg h]
      cases slash l with
      | none => rfl
      | some k =>
        have e : ((k : Int) == -1) = false := by
          rw [beq_eq_false_iff_ne]; omega
        simp only [Bool.false_eq_true, if_false, e, Option.map_some]
        exact (Int.natCast_succ k).symm
theorem cut_slash (s : List UInt8) : Lib.cut s [47] = match slash s with | some k => (s.take k, s.drop (k + 1), true) | none => (s, [], false) := by
  unfold Lib.cut
  rw [index_slash]
  cases slash s with
  | none => rfl
  | some k => simp
def okByte (c : UInt8) : Bool := !decide ((c.toNat : Int) < 33) && !decide ((126 : Int) < (c.toNat : Int))
def featOf (s : List UInt8) : Option (List UInt8) := match slash s with
  | none => none
  | some k => if (decide (k + 1 ≠ s.length) && decide (s.length ≤ 200) && isNameB (s.take k) && s.all okByte) = true then some (s.take k) else none
section
variable {P : Program} {G : Nat → Option (List AV)}
theorem validInput_ok {f fc fn : FuncId} (h : Has P f (w_history_validInput fc fn)) (s : List UInt8) (hl : s.length ≤ 1000000) (hc : VP P G fc [.str s, .str [47]] (.tup [.str (Lib.cut s [47]).1, .str (Lib.cut s [47]).2.1, .bool (Lib.cut s [47]).2.2]))
    (hn : ∀ s, VP P G fn [.str s] (.bool (isNameB s))) : VP P G f [.str s] (.bool (featOf s).isSome) := by
  rw [cut_slash] at hc
  unfold featOf
  cases hs : slash s with
  | none =>
    rw [hs] at hc
    simp only [] at hc
    refine VP.has h ?_
    simp only [w_history_validInput, SS, Nat.reduceAdd, reduceIte]
    refine vsCall_VP hc (by simp [PureAV.str]) ?_
    simp only [SS, Nat.reduceAdd, reduceIte, tup3_0, tup3_1, tup3_2, Option.isSome_none]
    exact retQ_ret ▸ retQ_of_pure rfl (PureAV.bool _)
  | some k =>
    rw [hs] at hc
    simp only [] at hc ⊢
    have hk := slash_lt hs
    have hnm := hn (s.take k)
    by_cases h1 : k + 1 = s.length
    · have e1 : s.drop (k + 1) = [] := List.drop_of_length_le (by omega)
      rw [e1] at hc
      rw [dec_false (by omega : ¬ k + 1 ≠ s.length), Bool.false_and, Bool.false_and, Bool.false_and, if_neg (by decide)]
      refine VP.has h ?_
      simp only [w_history_validInput, SS, Nat.reduceAdd, reduceIte]
      refine vsCall_VP hc (by simp [PureAV.str]) ?_
      simp only [SS, Nat.reduceAdd, reduceIte, tup3_0, tup3_1, tup3_2, Option.isSome_none]
      exact retQ_ret ▸ retQ_of_pure rfl (PureAV.bool _)
    have e1 : (s.drop (k + 1) == ([] : List UInt8)) = false := by
      rw [beq_eq_false_iff_ne]; intro e
      have := congrArg List.length e
      rw [List.length_drop] at this; simp at this; omega
    by_cases h2 : s.length ≤ 200
    case neg =>
      have d2 : decide ((200 : Int) < (s.length : Int)) = true := dec_true (by omega)
      rw [dec_false h2, Bool.and_false, Bool.false_and, Bool.false_and, if_neg (by decide)]
      refine VP.has h ?_
      simp only [w_history_validInput, SS, Nat.reduceAdd, reduceIte]
      refine vsCall_VP hc (by simp [PureAV.str]) ?_
      simp only [SS, Nat.reduceAdd, reduceIte, tup3_0, tup3_1, tup3_2, Option.isSome_none, e1, d2]
      exact retQ_ret ▸ retQ_of_pure rfl (PureAV.bool _)
    have d2 : decide ((200 : Int) < (s.length : Int)) = false := dec_false (by omega)
    rw [dec_true h1, dec_true h2]
    cases h3 : isNameB (s.take k)
    · rw [h3] at hnm
      simp only [Bool.and_false, Bool.false_and, Bool.false_eq_true, if_false, Option.isSome_none]
      refine VP.has h ?_
      simp only [w_history_validInput, SS, Nat.reduceAdd, reduceIte]
      refine vsCall_VP hc (by simp [PureAV.str]) ?_
      simp only [SS, Nat.reduceAdd, reduceIte, tup3_0, tup3_1, tup3_2, e1, d2]
      refine vsCall_VP hnm (by simp [PureAV.str]) ?_
      simp only [SS, Nat.reduceAdd, reduceIte]
      exact retQ_ret ▸ retQ_of_pure rfl (PureAV.bool _)
    rw [h3] at hnm
    have hfin : (if (true && true && true && s.all okByte) = true then some (s.take k) else none).isSome = s.all okByte := by
      cases s.all okByte <;> rfl
    rw [hfin]
    refine VP.has h ?_
    simp only [w_history_validInput, SS, Nat.reduceAdd, reduceIte]
    refine vsCall_VP hc (by simp [PureAV.str]) ?_
    simp only [SS, Nat.reduceAdd, reduceIte, tup3_0, tup3_1, tup3_2, e1, d2]
    refine vsCall_VP hnm (by simp [PureAV.str]) ?_
    simp only [SS, Nat.reduceAdd, reduceIte, vwp_loop]
    refine VW.loopQ (α := Nat × Nat) (fun x => ⟨[.str s] ++ List.replicate 29 .top ++ [.int .i64 (s.length : Int), .int .i64 (x.1 : Int)] ++ List.replicate 13 .top, fun _ => none, x.2⟩)
      (fun x => x.1 ≤ s.length ∧ (s.take x.1).all okByte = true) (fun x => s.length - x.1) (0, 1000) ?_ ⟨Nat.zero_le _, by simp⟩ ?_
    · exact Wk.slots (by simp [Fg, List.replicate]) (by omega)
    rintro ⟨i, nn⟩ ⟨hi, hall⟩
    simp only [] at hi hall
    by_cases hlt : i < s.length
    · obtain ⟨c, hc⟩ : ∃ c, s[i]? = some c := ⟨_, List.getElem?_eq_getElem hlt⟩
      have hm := List.mem_of_getElem? hc
      have dd : decide ((i : Int) < (s.length : Int)) = true := dec_true (by omega)
      have hby : (byteAV c) = .int .u8 (c.toNat : Int) := rfl
      have hok : okByte c = (!decide ((c.toNat : Int) < 33) && !decide ((126 : Int) < (c.toNat : Int))) := rfl
      have hbad : okByte c = false → s.all okByte = false := fun hb => by
        rw [Bool.eq_false_iff]; intro hh
        rw [List.all_eq_true] at hh
        rw [hh c hm] at hb; cases hb
      cases b1 : decide ((c.toNat : Int) < 33)
      · cases b2 : decide ((126 : Int) < (c.toNat : Int))
        · simp only [SS, Nat.reduceAdd, reduceIte, List.replicate, dd, indexS_at hc, hby, b1, b2, wrap_succ_i64 i (by omega)]
          refine ⟨(i + 1, _), ⟨by simp only []; omega, ?_⟩, by simp only []; omega, Wk.slots (by simp [Fg, List.replicate]) (Nat.le_refl _)⟩
          simp only []
          rw [List.take_add_one, hc, List.all_append, hall]
          simp [hok, b1, b2]
        · rw [hbad (by rw [hok, b1, b2]; rfl)]
          simp only [SS, Nat.reduceAdd, reduceIte, List.replicate, dd, indexS_at hc, hby, b1, b2]
          exact retQ_ret ▸ retQ_of_pure rfl (PureAV.bool _)
      · rw [hbad (by rw [hok, b1]; rfl)]
        simp only [SS, Nat.reduceAdd, reduceIte, List.replicate, dd, indexS_at hc, hby, b1]
        exact retQ_ret ▸ retQ_of_pure rfl (PureAV.bool _)
    · have dd : decide ((i : Int) < (s.length : Int)) = false := dec_false (by omega)
      have hi' : i = s.length := by omega
      rw [hi', List.take_length] at hall
      rw [hall]
      simp only [SS, Nat.reduceAdd, reduceIte, List.replicate, dd]
      exact retQ_ret ▸ retQ_of_pure rfl (PureAV.bool _)
end
end Go.VL
end

section
set_option linter.unusedSimpArgs false
set_option linter.unusedVariables false
namespace Go.VL
def atI (s : List UInt8) (i : Nat) : Int := match slash s with
  | some k => if k < i then (k : Int) else -1 - 0
  | none => -1 - 0
section
variable {P : Program} {G : Nat → Option (List AV)}
theorem feature_ok {f fn : FuncId} (h : Has P f (w_setsquareref53_feature fn)) (s : List UInt8) (hl : s.length ≤ 1000000) (hn : ∀ s, VP P G fn [.str s] (.bool (isNameB s))) : VP P G f [.str s] (.str ((featOf s).getD [])) := by
  have hbadall : (∃ c ∈ s, okByte c = false) → (featOf s).getD [] = [] := by
    rintro ⟨c, hm, hc⟩
    have : s.all okByte = false := by
      rw [Bool.eq_false_iff]; intro hh
      rw [List.all_eq_true] at hh
      rw [hh c hm] at hc; cases hc
    unfold featOf
    cases slash s with
    | none => rfl
    | some k => simp [this]
  refine VP.has h ?_
  simp only [w_setsquareref53_feature, SS, Nat.reduceAdd, reduceIte, vwp_loop]
  refine VW.loopQ (α := Nat × Nat) (fun x => ⟨[.str s, .top, .str [], .int .i64 (atI s x.1), .int .i64 (x.1 : Int)] ++ List.replicate 49 .top, fun _ => none, x.2⟩)
    (fun x => x.1 ≤ s.length ∧ (s.take x.1).all okByte = true) (fun x => s.length - x.1) (0, 1000) ?_ ⟨Nat.zero_le _, by simp⟩ ?_
  · have e0 : atI s 0 = -1 - 0 := by unfold atI; split <;> simp
    simp only [e0]
    exact Wk.slots (by simp [Fg, List.replicate]) (by omega)
  rintro ⟨i, nn⟩ ⟨hi, hall⟩
  simp only [] at hi hall
  by_cases hlt : i < s.length
  · obtain ⟨c, hc⟩ : ∃ c, s[i]? = some c := ⟨_, List.getElem?_eq_getElem hlt⟩
    have hm := List.mem_of_getElem? hc
    have dd : decide ((i : Int) < (s.length : Int)) = true := dec_true (by omega)
    have hby : (byteAV c) = .int .u8 (c.toNat : Int) := rfl
    have hok : okByte c = (!decide ((c.toNat : Int) < 33) && !decide ((126 : Int) < (c.toNat : Int))) := rfl
    cases b1 : decide ((c.toNat : Int) < 33)
    · cases b2 : decide ((126 : Int) < (c.toNat : Int))
      · have hall' : (s.take (i + 1)).all okByte = true := by
          rw [List.take_add_one, hc, List.all_append, hall]
          simp [hok, b1, b2]
        by_cases h47 : c = 47
        · have d3 : decide ((c.toNat : Int) = 47) = true := by rw [h47]; rfl
          rw [h47] at hc
          by_cases hneg : atI s i < 0
          · have d4 : decide (atI s i < 0) = true := dec_true hneg
            have e1 : atI s (i + 1) = (i : Int) := by
              unfold atI at hneg ⊢
              cases hs : slash s with
              | none => exact absurd hc (slash_none hs)
              | some k =>
                rw [hs] at hneg
                simp only [] at hneg ⊢
                have hki : ¬ k < i := by intro hk; rw [if_pos hk] at hneg; omega
                have hke : ¬ i < k := fun hik => slash_before hs hik hc
                rw [if_pos (by omega)]; omega
            rw [← h47] at hc
            simp only [SS, Nat.reduceAdd, reduceIte, dd, indexS_at hc, hby, b1, b2, d3, d4, wrap_succ_i64 i (by omega)]
            refine ⟨(i + 1, nn + 1000), ⟨by simp only []; omega, hall'⟩, by simp only []; omega, ?_⟩
            simp only [e1]
            exact Wk.slots (by simp [Fg, List.replicate]) (by omega)
          · have d4 : decide (atI s i < 0) = false := dec_false hneg
            have e1 : atI s (i + 1) = atI s i := by
              unfold atI at hneg ⊢
              cases hs : slash s with
              | none => rfl
              | some k =>
                rw [hs] at hneg
                simp only [] at hneg ⊢
                have hki : k < i := by
                  rcases Nat.lt_or_ge k i with q | q
                  · exact q
                  · rw [if_neg (by omega)] at hneg; simp at hneg
                rw [if_pos hki, if_pos (by omega)]
            rw [← h47] at hc
            simp only [SS, Nat.reduceAdd, reduceIte, dd, indexS_at hc, hby, b1, b2, d3, d4, wrap_succ_i64 i (by omega)]
            refine ⟨(i + 1, nn + 1000), ⟨by simp only []; omega, hall'⟩, by simp only []; omega, ?_⟩
            simp only [e1]
            exact Wk.slots (by simp [Fg, List.replicate]) (by omega)
        · have d3 : decide ((c.toNat : Int) = 47) = false := dec_false (fun e => h47 (by
            have : c.toNat = 47 := by omega
            exact UInt8.toNat_inj.1 (by rw [this]; rfl)))
          have e1 : atI s (i + 1) = atI s i := by
            unfold atI
            cases hs : slash s with
            | none => rfl
            | some k =>
              simp only []
              have hki : k ≠ i := fun e => by
                have := slash_at hs
                rw [e, hc] at this
                exact h47 (Option.some.inj this)
              by_cases q : k < i
              · rw [if_pos q, if_pos (by omega)]
              · rw [if_neg q, if_neg (by omega)]
          simp only [SS, Nat.reduceAdd, reduceIte, dd, indexS_at hc, hby, b1, b2, d3, wrap_succ_i64 i (by omega)]
          refine ⟨(i + 1, nn + 1000), ⟨by simp only []; omega, hall'⟩, by simp only []; omega, ?_⟩
          simp only [e1]
          exact Wk.slots (by simp [Fg, List.replicate]) (by omega)
      · rw [hbadall ⟨c, hm, by rw [hok, b1, b2]; rfl⟩]
        simp only [SS, Nat.reduceAdd, reduceIte, dd, indexS_at hc, hby, b1, b2]
        exact retQ_ret ▸ retQ_of_pure rfl (PureAV.str _)
    · rw [hbadall ⟨c, hm, by rw [hok, b1]; rfl⟩]
      simp only [SS, Nat.reduceAdd, reduceIte, dd, indexS_at hc, hby, b1]
      exact retQ_ret ▸ retQ_of_pure rfl (PureAV.str _)
  · have dd : decide ((i : Int) < (s.length : Int)) = false := dec_false (by omega)
    have hi' : i = s.length := by omega
    rw [hi', List.take_length] at hall
    rw [hi']
    rw [hi'] at dd
    unfold featOf atI
    cases hs : slash s with
    | none =>
      have d1 : decide ((-1 - 0 : Int) < 0) = true := by decide
      simp only [SS, Nat.reduceAdd, reduceIte, dd, d1, Option.getD_none]
      exact retQ_ret ▸ retQ_of_pure rfl (PureAV.str _)
    | some k =>
      have hk := slash_lt hs
      have d1 : decide ((k : Int) < 0) = false := dec_false (by omega)
      have hw : IntKind.i64.wrap ((s.length : Int) - 1) = (s.length : Int) - 1 := by rw [IntKind.wrap_i64]; omega
      have hsl := sliceS_hi (s := s) (l := k) (by omega)
      have hnm := hn (s.take k)
      rw [hall]
      simp only [hk, if_true]
      by_cases h1 : k + 1 = s.length
      · have d2 : decide ((k : Int) = (s.length : Int) - 1) = true := dec_true (by omega)
        rw [dec_false (by omega : ¬ k + 1 ≠ s.length), Bool.false_and, Bool.false_and, Bool.false_and, if_neg (by decide)]
        simp only [SS, Nat.reduceAdd, reduceIte, dd, d1, d2, hw, Option.getD_none]
        exact retQ_ret ▸ retQ_of_pure rfl (PureAV.str _)
      have d2 : decide ((k : Int) = (s.length : Int) - 1) = false := dec_false (by omega)
      by_cases h2 : s.length ≤ 200
      case neg =>
        have d3 : decide ((200 : Int) < (s.length : Int)) = true := dec_true (by omega)
        rw [dec_false h2, Bool.and_false, Bool.false_and, Bool.false_and, if_neg (by decide)]
        simp only [SS, Nat.reduceAdd, reduceIte, dd, d1, d2, d3, hw, Option.getD_none]
        exact retQ_ret ▸ retQ_of_pure rfl (PureAV.str _)
      have d3 : decide ((200 : Int) < (s.length : Int)) = false := dec_false (by omega)
      rw [dec_true h1, dec_true h2]
      cases h3 : isNameB (s.take k)
      · rw [h3] at hnm
        simp only [SS, Nat.reduceAdd, reduceIte, dd, d1, d2, d3, hw, hsl, Bool.and_false, Bool.false_and, Bool.and_true, Bool.false_eq_true, if_false, Option.getD_none]
        refine vsCall_VP hnm (by simp [PureAV.str]) ?_
        simp only [SS, Nat.reduceAdd, reduceIte]
        exact retQ_ret ▸ retQ_of_pure rfl (PureAV.str _)
      · rw [h3] at hnm
        simp only [SS, Nat.reduceAdd, reduceIte, dd, d1, d2, d3, hw, hsl, Bool.and_true, if_true, Option.getD_some]
        refine vsCall_VP hnm (by simp [PureAV.str]) ?_
        simp only [SS, Nat.reduceAdd, reduceIte, hsl]
        exact retQ_ret ▸ retQ_of_pure rfl (PureAV.str _)
end
end Go.VL
end

section
set_option linter.unusedSimpArgs false
set_option linter.unusedVariables false
namespace Go.VL
structure FX where
  name : List UInt8
  kind : Int
  inputs : List (List UInt8)
  vals : List EX
  supp : Bool
def FX.feat (X : FX) : Feat := ⟨X.name, X.kind, X.inputs, EX.avL X.vals, X.supp⟩
def FX.av (X : FX) : AV := X.feat.av
structure FX.Ok (X : FX) : Prop where
  name : X.name.length ≤ 9223372036854775807
  ins : X.inputs.length ≤ 9223372036854775807
  inl : ∀ s ∈ X.inputs, s.length ≤ 9223372036854775807
  vl : X.vals.length ≤ 9223372036854775807
  vals : ∀ e ∈ X.vals, e.Ok
theorem FX.pure (X : FX) : PureAV X.feat.av := PureAV.agg (by
  intro c hc
  simp [FX.feat] at hc
  rcases hc with rfl | rfl | rfl | rfl | rfl
  · exact PureAV.str _
  · exact PureAV.int _ _
  · exact strs_pure _
  · exact EX.args_pure _
  · exact PureAV.bool _)
theorem FX.featOk {X : FX} (hi : X.inputs.length ≤ 1000) (hvv : X.vals.length ≤ 1000) : X.feat.Ok := ⟨fun v hv => by
  show ExprLike v
  have hv' : v ∈ EX.avL X.vals := hv
  rw [EX.avL_map] at hv'
  obtain ⟨e, _, rfl⟩ := List.mem_map.1 hv'
  exact e.like, by show X.inputs.length < _; omega, by show (EX.avL X.vals).length < _; rw [EX.avLlen]; omega⟩
def goodE (e : EX) : Bool := e.formed && decide (e.depth ≤ 40)
def FX.valid (X : FX) : Bool := isNameB X.name && decide (1 ≤ X.kind) && decide (X.kind ≤ 6) && decide (X.inputs.length ≤ 50) && decide (X.vals.length ≤ 10) && X.inputs.all (fun s => (featOf s).isSome) && X.vals.all goodE
def smallE (e : EX) : Bool := decide (e.nodes ≤ 120) && e.light
def FX.small (X : FX) : Bool := decide (X.inputs.length ≤ 60) && decide (X.vals.length ≤ 12) && decide (X.name.length ≤ 100) && X.inputs.all (fun s => decide (s.length ≤ 300)) && X.vals.all smallE
noncomputable def exP (q : EX → Bool) (v : AV) : Bool := @decide (∃ e : EX, e.av = v ∧ q e = true) (Classical.propDecidable _)
theorem exP_av (q : EX → Bool) (e : EX) : exP q e.av = q e := by
  unfold exP
  cases h : q e
  · refine @decide_eq_false _ (Classical.propDecidable _) ?_
    rintro ⟨e', h1, h2⟩
    rw [EX.av_inj _ _ h1] at h2
    rw [h] at h2; cases h2
  · exact @decide_eq_true _ (Classical.propDecidable _) ⟨e, rfl, h⟩
def strP (q : List UInt8 → Bool) : AV → Bool
  | .str s => q s
  | _ => false
theorem any_exP (q : EX → Bool) (l : List EX) : (EX.avL l).any (exP q) = l.any q := by
  rw [EX.avL_map, List.any_map]
  congr 1; funext e; exact exP_av q e
theorem any_strP (q : List UInt8 → Bool) (l : List (List UInt8)) : (l.map AV.str).any (strP q) = l.any q := by
  rw [List.any_map]; rfl
theorem any_not {α : Type} (p : α → Bool) (l : List α) : (l.any fun x => !p x) = !l.all p := by
  induction l with
  | nil => rfl
  | cons a l ih => simp only [List.any_cons, List.all_cons, ih, Bool.not_and]
section
variable {P : Program} {G : Nat → Option (List AV)}
theorem valid1_ok {f fv : FuncId} (h : Has P f (w_history_valid_1 fv)) (s : List UInt8) {b : Bool} (hv : VP P G fv [.str s] (.bool b)) : VP P G f [.str s] (.bool (!b)) := by
  refine VP.has h ?_
  simp only [w_history_valid_1, SS, Nat.reduceAdd, reduceIte]
  refine vsCall_VP hv (by simp [PureAV.str]) ?_
  simp only [SS, Nat.reduceAdd, reduceIte]
  exact retQ_ret ▸ retQ_of_pure rfl (PureAV.bool _)
theorem valid2_ok {f fv : FuncId} (h : Has P f (w_history_valid_2 fv)) (e : EX) (hv : VP P G fv [e.av] (.int .i64 (if e.formed = true then (if 40 < e.depth then 3 else 0) else 1))) : VP P G f [e.av] (.bool (!goodE e)) := by
  have hd : decide ((if e.formed = true then (if 40 < e.depth then (3 : Int) else 0) else 1) ≠ 0) = !goodE e := by
    unfold goodE
    cases e.formed
    · rfl
    · by_cases h40 : 40 < e.depth
      · have : ¬ e.depth ≤ 40 := by omega
        simp [h40, this]
      · have : e.depth ≤ 40 := by omega
        simp [h40, this]
  refine VP.has h ?_
  simp only [w_history_valid_2, SS, Nat.reduceAdd, reduceIte, EX.one, load_put, EX.all]
  refine vsCall_VP hv (by simp [EX.pure]) ?_
  simp only [SS, Nat.reduceAdd, reduceIte, hd]
  exact retQ_ret ▸ retQ_of_pure rfl (PureAV.bool _)
theorem strs_part (l : List (List UInt8)) : ∀ e ∈ l.map AV.str, part false e.cells 0 1 = some e := by
  intro e he
  obtain ⟨s, _, rfl⟩ := List.mem_map.1 he
  rfl
theorem hvalid_ok {f fn fc1 v1 fc2 v2 fi1 fi2 : FuncId} (h : Has P f (w_history_valid fn fc1 v1 fc2 v2)) (hn : ∀ s, VP P G fn [.str s] (.bool (isNameB s))) (hc1 : Has P fc1 (w_slices_ContainsFunc_Lstring_string fi1)) (hi1 : Has P fi1 w_slices_IndexFunc_Lstring_string)
    (hc2 : Has P fc2 (w_slices_ContainsFunc_Lapi_Expr_api_Expr fi2)) (hi2 : Has P fi2 w_slices_IndexFunc_Lapi_Expr_api_Expr) (X : FX) (hX : X.Ok) (hi : X.inputs.length ≤ 1000) (hvv : X.vals.length ≤ 1000)
    (hv1 : ∀ s ∈ X.inputs, VP P G v1 [.str s] (.bool (!(featOf s).isSome))) (hv2 : ∀ e ∈ X.vals, VP P G v2 [e.av] (.bool (!goodE e))) : VP P G f [X.av] (.bool X.valid) := by
  have h1 : VP P G fc1 [strs X.inputs, .fn (.func v1) [] []] (.bool (!X.inputs.all (fun s => (featOf s).isSome))) := by
    rw [← any_not, ← any_strP]
    refine slices_ContainsFunc_Lstring_string_ok hc1 (slices_IndexFunc_Lstring_string_ok hi1 (strs_part _) ?_ ?_ (by simp) (by simp) (by rw [List.length_map]; omega)) (strs_pure _) (fn_pure0 _)
    all_goals
      intro v hv
      obtain ⟨s, hs, rfl⟩ := List.mem_map.1 hv
    · exact hv1 s hs
    · exact PureAV.str _
  have h2 : VP P G fc2 [.sl 7 (EX.avL X.vals), .fn (.func v2) [] []] (.bool (!X.vals.all goodE)) := by
    rw [← any_not, ← any_exP]
    refine slices_ContainsFunc_Lapi_Expr_api_Expr_ok hc2 (slices_IndexFunc_Lapi_Expr_api_Expr_ok hi2 ?_ ?_ ?_ (by simp) (by simp) (by rw [EX.avLlen]; omega)) (EX.args_pure _) (fn_pure0 _)
    all_goals
      intro v hv
      rw [EX.avL_map] at hv
      obtain ⟨x, hx, rfl⟩ := List.mem_map.1 hv
    · exact EX.all x
    · rw [exP_av]; exact hv2 x hx
    · exact EX.pure x
  have := valid_ok h hn X.feat (FX.featOk hi hvv) (fun _ => h1) (fun _ => h2)
  have e : (isNameB X.feat.name && decide (1 ≤ X.feat.kind) && decide (X.feat.kind ≤ 6) && decide (X.feat.inputs.length ≤ 50) && decide (X.feat.values.length ≤ 10) && !(!X.inputs.all (fun s => (featOf s).isSome)) && !(!X.vals.all goodE)) = X.valid := by
    unfold FX.valid
    rw [Bool.not_not, Bool.not_not]
    show (isNameB X.name && decide (1 ≤ X.kind) && decide (X.kind ≤ 6) && decide (X.inputs.length ≤ 50) && decide ((EX.avL X.vals).length ≤ 10) && _ && _) = _
    rw [EX.avLlen]
  rw [e] at this
  exact this
theorem has_ok {f : FuncId} (h : Has P f w_setsquareref53_has) (l : List (List UInt8)) (hl : l.length ≤ 1000000) (s : List UInt8) : VP P G f [strs l, .str s] (.bool (l.contains s)) := by
  refine VP.has h ?_
  have hlen : vlen false (strs l) = some (.int .i64 l.length) := by simp [strs, vlen]
  simp only [w_setsquareref53_has, SS, Nat.reduceAdd, reduceIte, vwp_loop]
  refine VW.loopQ (α := Nat × Nat) (fun x => ⟨[strs l, .str s, .top, .top, .bool false, .int .i64 (x.1 : Int)] ++ List.replicate 12 .top, fun _ => none, x.2⟩)
    (fun x => x.1 ≤ l.length ∧ (l.take x.1).contains s = false) (fun x => l.length - x.1) (0, 1000) ?_ ⟨Nat.zero_le _, by simp⟩ ?_
  · exact Wk.slots (by simp [Fg, List.replicate]) (by omega)
  rintro ⟨i, nn⟩ ⟨hi, hno⟩
  simp only [] at hi hno
  by_cases hlt : i < l.length
  · obtain ⟨c, hc⟩ : ∃ c, l[i]? = some c := ⟨_, List.getElem?_eq_getElem hlt⟩
    have hm := List.mem_of_getElem? hc
    have hg : (l.map AV.str)[i]? = some (.str c) := by rw [List.getElem?_map, hc]; rfl
    have dd : decide ((i : Int) < (l.length : Int)) = true := dec_true (by omega)
    have hpt : part false (AV.str c).cells 0 1 = some (.str c) := rfl
    have hia : viaddrS 1 (strs l) (.int .i64 (i : Int)) = some (.ep (AV.str c).cells 0) := iaddrS_sl rfl hg
    cases b : (c == s)
    · simp only [SS, Nat.reduceAdd, reduceIte, hlen, dd, hia, vload_ep, hpt, b, wrap_succ_i64 i (by omega)]
      refine ⟨(i + 1, nn + 1000), ⟨by simp only []; omega, ?_⟩, by simp only []; omega, Wk.slots (by simp [Fg, List.replicate]) (by omega)⟩
      simp only []
      have hcs : ¬ c = s := by simpa using b
      have hno' : ¬ s ∈ l.take i := by simpa using hno
      rw [List.take_add_one, hc, Option.toList_some]
      simp only [List.contains_eq_mem, List.mem_append, List.mem_singleton]
      exact decide_eq_false (by rintro (q | q); exact hno' q; exact hcs q.symm)
    · have hcs : c = s := by simpa using b
      have : l.contains s = true := by rw [← hcs]; simpa using hm
      rw [this]
      simp only [SS, Nat.reduceAdd, reduceIte, hlen, dd, hia, vload_ep, hpt, b]
      exact retQ_ret ▸ retQ_of_pure rfl (PureAV.bool _)
  · have dd : decide ((i : Int) < (l.length : Int)) = false := dec_false (by omega)
    have hi' : i = l.length := by omega
    rw [hi', List.take_length] at hno
    rw [hno]
    simp only [SS, Nat.reduceAdd, reduceIte, hlen, dd]
    exact retQ_ret ▸ retQ_of_pure rfl (PureAV.bool _)
end
end Go.VL
end

section
set_option linter.unusedSimpArgs false
set_option linter.unusedVariables false
namespace Go.VL
theorem FX.f_name (X : FX) : X.feat.name = X.name := rfl
theorem FX.f_kind (X : FX) : X.feat.kind = X.kind := rfl
theorem FX.f_inputs (X : FX) : X.feat.inputs = X.inputs := rfl
theorem FX.f_values (X : FX) : X.feat.values = EX.avL X.vals := rfl
theorem len_strs (l : List (List UInt8)) : vlen false (strs l) = some (.int .i64 l.length) := by simp [strs, vlen]
theorem goodE_int (e : EX) : decide ((if e.formed = true then (if 40 < e.depth then (3 : Int) else 0) else 1) ≠ 0) = !goodE e := by
  unfold goodE
  cases e.formed
  · rfl
  · by_cases h40 : 40 < e.depth
    · have : ¬ e.depth ≤ 40 := by omega
      simp [h40, this]
    · have : e.depth ≤ 40 := by omega
      simp [h40, this]
theorem not_nil_some (s : List UInt8) : ((featOf s).getD [] == ([] : List UInt8)) = !(featOf s).isSome := by
  unfold featOf
  cases hs : slash s with
  | none => rfl
  | some k =>
    simp only []
    split
    · rename_i h
      simp only [Bool.and_eq_true] at h
      have hn := h.1.2
      cases ht : s.take k with
      | nil => rw [ht] at hn; cases hn
      | cons a l => rfl
    · rfl
section
variable {P : Program} {G : Nat → Option (List AV)}
theorem rvalid53_ok {f fn fv ff : FuncId} (h : Has P f (w_setsquareref53_Valid fn fv ff)) (X : FX) (hX : X.Ok) (hn : VP P G fn [.str X.name] (.bool (isNameB X.name)))
    (hv : ∀ e ∈ X.vals, VP P G fv [e.av] (.int .i64 (if e.formed = true then (if 40 < e.depth then 3 else 0) else 1))) (hf : ∀ s ∈ X.inputs, VP P G ff [.str s] (.str ((featOf s).getD []))) : VP P G f [X.av] (.bool X.valid) := by
  show VP P G f [X.feat.av] _
  have hpure := FX.pure X
  have il := hX.ins
  have vl := hX.vl
  unfold FX.valid
  have k1 : decide (X.kind < 1) = !decide (1 ≤ X.kind) := by by_cases q : 1 ≤ X.kind <;> simp [q] <;> omega
  have k2 : decide (6 < X.kind) = !decide (X.kind ≤ 6) := by by_cases q : X.kind ≤ 6 <;> simp [q] <;> omega
  have k3 : decide ((50 : Int) < (X.inputs.length : Int)) = !decide (X.inputs.length ≤ 50) := by by_cases q : X.inputs.length ≤ 50 <;> simp [q] <;> omega
  have k4 : decide ((10 : Int) < (X.vals.length : Int)) = !decide (X.vals.length ≤ 10) := by by_cases q : X.vals.length ≤ 10 <;> simp [q] <;> omega
  cases b1 : isNameB X.name
  · rw [b1] at hn
    refine VP.has h ?_
    simp only [w_setsquareref53_Valid, SS, Nat.reduceAdd, reduceIte, Feat.one, load_put, Feat.p0, FX.f_name]
    refine vsCall_VP hn (by simp [PureAV.str]) ?_
    simp only [SS, Nat.reduceAdd, reduceIte, Bool.false_and]
    exact retQ_ret ▸ retQ_of_pure rfl (PureAV.bool _)
  rw [b1] at hn
  cases b2 : decide (1 ≤ X.kind)
  · rw [b2] at k1
    refine VP.has h ?_
    simp only [w_setsquareref53_Valid, SS, Nat.reduceAdd, reduceIte, Feat.one, load_put, Feat.p0, FX.f_name]
    refine vsCall_VP hn (by simp [PureAV.str]) ?_
    simp only [SS, Nat.reduceAdd, reduceIte, load_put, Feat.p1, FX.f_kind, k1, Bool.false_and, Bool.and_false]
    exact retQ_ret ▸ retQ_of_pure rfl (PureAV.bool _)
  rw [b2] at k1
  cases b3 : decide (X.kind ≤ 6)
  · rw [b3] at k2
    refine VP.has h ?_
    simp only [w_setsquareref53_Valid, SS, Nat.reduceAdd, reduceIte, Feat.one, load_put, Feat.p0, FX.f_name]
    refine vsCall_VP hn (by simp [PureAV.str]) ?_
    simp only [SS, Nat.reduceAdd, reduceIte, load_put, Feat.p1, FX.f_kind, k1, k2, Bool.false_and, Bool.and_false]
    exact retQ_ret ▸ retQ_of_pure rfl (PureAV.bool _)
  rw [b3] at k2
  cases b4 : decide (X.inputs.length ≤ 50)
  · rw [b4] at k3
    refine VP.has h ?_
    simp only [w_setsquareref53_Valid, SS, Nat.reduceAdd, reduceIte, Feat.one, load_put, Feat.p0, FX.f_name]
    refine vsCall_VP hn (by simp [PureAV.str]) ?_
    simp only [SS, Nat.reduceAdd, reduceIte, load_put, Feat.p1, Feat.p2, FX.f_kind, FX.f_inputs, len_strs, k1, k2, k3, Bool.false_and, Bool.and_false]
    exact retQ_ret ▸ retQ_of_pure rfl (PureAV.bool _)
  rw [b4] at k3
  cases b5 : decide (X.vals.length ≤ 10)
  · rw [b5] at k4
    refine VP.has h ?_
    simp only [w_setsquareref53_Valid, SS, Nat.reduceAdd, reduceIte, Feat.one, load_put, Feat.p0, FX.f_name]
    refine vsCall_VP hn (by simp [PureAV.str]) ?_
    simp only [SS, Nat.reduceAdd, reduceIte, load_put, Feat.p1, Feat.p2, Feat.p3, FX.f_kind, FX.f_inputs, FX.f_values, len_strs, EX.avLlen, k1, k2, k3, k4, Bool.false_and, Bool.and_false]
    exact retQ_ret ▸ retQ_of_pure rfl (PureAV.bool _)
  rw [b5] at k4
  refine VP.has h ?_
  simp only [w_setsquareref53_Valid, SS, Nat.reduceAdd, reduceIte, Feat.one, load_put, Feat.p0, FX.f_name]
  refine vsCall_VP hn (by simp [PureAV.str]) ?_
  simp only [SS, Nat.reduceAdd, reduceIte, load_put, Feat.p1, Feat.p2, Feat.p3, FX.f_kind, FX.f_inputs, FX.f_values, len_strs, EX.avLlen, k1, k2, k3, k4, Bool.true_and, vwp_loop]
  refine VW.loopQ (α := Nat × Nat) (fun x => ⟨[X.feat.av, .ref [0] 0 0, .bool false, .int .i64 (x.1 : Int)] ++ List.replicate 55 .top, Store.put (fun _ => none) [0] (some ⟨[X.feat.av], 5, false⟩), x.2⟩)
    (fun x => x.1 ≤ X.vals.length ∧ (X.vals.take x.1).all goodE = true) (fun x => X.vals.length - x.1) (0, 1000) ?_ ⟨Nat.zero_le _, by simp⟩ ?_
  · exact Wk.slots (by simp [Fg, List.replicate]) (by omega)
  rintro ⟨i, nn⟩ ⟨hi, hall⟩
  simp only [] at hi hall
  by_cases hlt : i < X.vals.length
  · obtain ⟨e, he⟩ : ∃ e, X.vals[i]? = some e := ⟨_, List.getElem?_eq_getElem hlt⟩
    have hm := List.mem_of_getElem? he
    have hg : (EX.avL X.vals)[i]? = some e.av := by rw [EX.avL_map, List.getElem?_map, he]; rfl
    have dd : decide ((i : Int) < (X.vals.length : Int)) = true := dec_true (by omega)
    have hgi := goodE_int e
    simp only [SS, Nat.reduceAdd, reduceIte, load_put, Feat.p3, FX.f_values, EX.avLlen, dd, iaddrS_sl rfl hg, vload_ep, EX.all]
    refine vsCall_VP (hv e hm) (by simp [EX.pure]) ?_
    cases hge : goodE e
    · rw [hge] at hgi
      have : X.vals.all goodE = false := by
        rw [Bool.eq_false_iff]; intro hh
        rw [List.all_eq_true] at hh
        rw [hh e hm] at hge; cases hge
      rw [this]
      simp only [SS, Nat.reduceAdd, reduceIte, hgi, Bool.and_false]
      exact retQ_ret ▸ retQ_of_pure rfl (PureAV.bool _)
    · rw [hge] at hgi
      simp only [SS, Nat.reduceAdd, reduceIte, hgi, wrap_succ_i64 i (by omega)]
      refine ⟨(i + 1, nn + 1000), ⟨by simp only []; omega, ?_⟩, by simp only []; omega, Wk.slots (by simp [Fg, List.replicate]) (by omega)⟩
      simp only []
      rw [List.take_add_one, he, List.all_append, hall]
      simp [hge]
  · have dd : decide ((i : Int) < (X.vals.length : Int)) = false := dec_false (by omega)
    have hi' : i = X.vals.length := by omega
    rw [hi', List.take_length] at hall
    rw [hall, Bool.and_true]
    simp only [SS, Nat.reduceAdd, reduceIte, load_put, Feat.p3, FX.f_values, EX.avLlen, dd, vwp_loop]
    refine VW.loopQ (α := Nat × Nat) (fun x => ⟨[X.feat.av, .ref [0] 0 0, .bool false, .top, .int .i64 (x.1 : Int)] ++ List.replicate 54 .top, Store.put (fun _ => none) [0] (some ⟨[X.feat.av], 5, false⟩), x.2⟩)
      (fun x => x.1 ≤ X.inputs.length ∧ (X.inputs.take x.1).all (fun s => (featOf s).isSome) = true) (fun x => X.inputs.length - x.1) (0, nn + 1000) ?_ ⟨Nat.zero_le _, by simp⟩ ?_
    · exact Wk.slots (by simp [Fg, List.replicate]) (by omega)
    rintro ⟨j, mm⟩ ⟨hj, hall2⟩
    simp only [] at hj hall2
    by_cases hlt2 : j < X.inputs.length
    · obtain ⟨s, hs⟩ : ∃ s, X.inputs[j]? = some s := ⟨_, List.getElem?_eq_getElem hlt2⟩
      have hm := List.mem_of_getElem? hs
      have hg : (X.inputs.map AV.str)[j]? = some (.str s) := by rw [List.getElem?_map, hs]; rfl
      have hia : viaddrS 1 (strs X.inputs) (.int .i64 (j : Int)) = some (.ep (AV.str s).cells 0) := iaddrS_sl rfl hg
      have hpt : part false (AV.str s).cells 0 1 = some (.str s) := rfl
      have dd : decide ((j : Int) < (X.inputs.length : Int)) = true := dec_true (by omega)
      have hgi := not_nil_some s
      simp only [SS, Nat.reduceAdd, reduceIte, load_put, Feat.p2, FX.f_inputs, len_strs, dd, hia, vload_ep, hpt]
      refine vsCall_VP (hf s hm) (by simp [PureAV.str]) ?_
      cases hge : (featOf s).isSome
      · rw [hge] at hgi
        have : X.inputs.all (fun s => (featOf s).isSome) = false := by
          rw [Bool.eq_false_iff]; intro hh
          rw [List.all_eq_true] at hh
          have := hh s hm
          rw [hge] at this; cases this
        rw [this]
        simp only [SS, Nat.reduceAdd, reduceIte, hgi]
        exact retQ_ret ▸ retQ_of_pure rfl (PureAV.bool _)
      · rw [hge] at hgi
        simp only [SS, Nat.reduceAdd, reduceIte, hgi, wrap_succ_i64 j (by omega)]
        refine ⟨(j + 1, mm + 1000), ⟨by simp only []; omega, ?_⟩, by simp only []; omega, Wk.slots (by simp [Fg, List.replicate]) (by omega)⟩
        simp only []
        rw [List.take_add_one, hs, List.all_append, hall2]
        simp [hge]
    · have dd : decide ((j : Int) < (X.inputs.length : Int)) = false := dec_false (by omega)
      have hj' : j = X.inputs.length := by omega
      rw [hj', List.take_length] at hall2
      rw [hall2]
      simp only [SS, Nat.reduceAdd, reduceIte, load_put, Feat.p2, FX.f_inputs, len_strs, dd]
      exact retQ_ret ▸ retQ_of_pure rfl (PureAV.bool _)
theorem rsmall53_ok {f fs : FuncId} (h : Has P f (w_setsquareref53_Small fs)) (X : FX) (hX : X.Ok) (hs : ∀ e ∈ X.vals, VP P G fs [e.av] (.bool (smallE e))) : VP P G f [X.av] (.bool X.small) := by
  show VP P G f [X.feat.av] _
  have hpure := FX.pure X
  have il := hX.ins
  have vl := hX.vl
  unfold FX.small
  have k3 : decide ((60 : Int) < (X.inputs.length : Int)) = !decide (X.inputs.length ≤ 60) := by by_cases q : X.inputs.length ≤ 60 <;> simp [q] <;> omega
  have k4 : decide ((12 : Int) < (X.vals.length : Int)) = !decide (X.vals.length ≤ 12) := by by_cases q : X.vals.length ≤ 12 <;> simp [q] <;> omega
  have k5 : decide ((100 : Int) < (X.name.length : Int)) = !decide (X.name.length ≤ 100) := by by_cases q : X.name.length ≤ 100 <;> simp [q] <;> omega
  cases b3 : decide (X.inputs.length ≤ 60)
  · rw [b3] at k3
    refine VP.has h ?_
    simp only [w_setsquareref53_Small, SS, Nat.reduceAdd, reduceIte, Feat.one, load_put, Feat.p0, Feat.p2, Feat.p3, FX.f_name, FX.f_inputs, FX.f_values, len_strs, EX.avLlen, k3, Bool.false_and]
    exact retQ_ret ▸ retQ_of_pure rfl (PureAV.bool _)
  rw [b3] at k3
  cases b4 : decide (X.vals.length ≤ 12)
  · rw [b4] at k4
    refine VP.has h ?_
    simp only [w_setsquareref53_Small, SS, Nat.reduceAdd, reduceIte, Feat.one, load_put, Feat.p0, Feat.p2, Feat.p3, FX.f_name, FX.f_inputs, FX.f_values, len_strs, EX.avLlen, k3, k4, Bool.false_and, Bool.and_false]
    exact retQ_ret ▸ retQ_of_pure rfl (PureAV.bool _)
  rw [b4] at k4
  cases b5 : decide (X.name.length ≤ 100)
  · rw [b5] at k5
    refine VP.has h ?_
    simp only [w_setsquareref53_Small, SS, Nat.reduceAdd, reduceIte, Feat.one, load_put, Feat.p0, Feat.p2, Feat.p3, FX.f_name, FX.f_inputs, FX.f_values, len_strs, EX.avLlen, k3, k4, k5, Bool.false_and, Bool.and_false]
    exact retQ_ret ▸ retQ_of_pure rfl (PureAV.bool _)
  rw [b5] at k5
  refine VP.has h ?_
  simp only [w_setsquareref53_Small, SS, Nat.reduceAdd, reduceIte, Feat.one, load_put, Feat.p0, Feat.p2, Feat.p3, FX.f_name, FX.f_inputs, FX.f_values, len_strs, EX.avLlen, k3, k4, k5, Bool.true_and, vwp_loop]
  refine VW.loopQ (α := Nat × Nat) (fun x => ⟨[X.feat.av, .ref [0] 0 0, .bool false, .int .i64 (x.1 : Int)] ++ List.replicate 45 .top, Store.put (fun _ => none) [0] (some ⟨[X.feat.av], 5, false⟩), x.2⟩)
    (fun x => x.1 ≤ X.inputs.length ∧ (X.inputs.take x.1).all (fun s => decide (s.length ≤ 300)) = true) (fun x => X.inputs.length - x.1) (0, 1000) ?_ ⟨Nat.zero_le _, by simp⟩ ?_
  · exact Wk.slots (by simp [Fg, List.replicate]) (by omega)
  rintro ⟨j, mm⟩ ⟨hj, hall2⟩
  simp only [] at hj hall2
  by_cases hlt2 : j < X.inputs.length
  · obtain ⟨s, hs2⟩ : ∃ s, X.inputs[j]? = some s := ⟨_, List.getElem?_eq_getElem hlt2⟩
    have hm := List.mem_of_getElem? hs2
    have hsl := hX.inl s hm
    have hg : (X.inputs.map AV.str)[j]? = some (.str s) := by rw [List.getElem?_map, hs2]; rfl
    have hia : viaddrS 1 (strs X.inputs) (.int .i64 (j : Int)) = some (.ep (AV.str s).cells 0) := iaddrS_sl rfl hg
    have hpt : part false (AV.str s).cells 0 1 = some (.str s) := rfl
    have dd : decide ((j : Int) < (X.inputs.length : Int)) = true := dec_true (by omega)
    have hgi : decide ((300 : Int) < (s.length : Int)) = !decide (s.length ≤ 300) := by by_cases q : s.length ≤ 300 <;> simp [q] <;> omega
    cases hge : decide (s.length ≤ 300)
    · rw [hge] at hgi
      have : X.inputs.all (fun s => decide (s.length ≤ 300)) = false := by
        rw [Bool.eq_false_iff]; intro hh
        rw [List.all_eq_true] at hh
        have := hh s hm
        rw [hge] at this; cases this
      rw [this]
      simp only [SS, Nat.reduceAdd, reduceIte, load_put, Feat.p2, FX.f_inputs, len_strs, dd, hia, vload_ep, hpt, hgi, Bool.false_and]
      exact retQ_ret ▸ retQ_of_pure rfl (PureAV.bool _)
    · rw [hge] at hgi
      simp only [SS, Nat.reduceAdd, reduceIte, load_put, Feat.p2, FX.f_inputs, len_strs, dd, hia, vload_ep, hpt, hgi, wrap_succ_i64 j (by omega)]
      refine ⟨(j + 1, mm + 1000), ⟨by simp only []; omega, ?_⟩, by simp only []; omega, Wk.slots (by simp [Fg, List.replicate]) (by omega)⟩
      simp only []
      rw [List.take_add_one, hs2, List.all_append, hall2]
      simpa using hge
  · have dd : decide ((j : Int) < (X.inputs.length : Int)) = false := dec_false (by omega)
    have hj' : j = X.inputs.length := by omega
    rw [hj', List.take_length] at hall2
    rw [hall2, Bool.true_and]
    simp only [SS, Nat.reduceAdd, reduceIte, load_put, Feat.p2, FX.f_inputs, len_strs, dd, vwp_loop]
    refine VW.loopQ (α := Nat × Nat) (fun x => ⟨[X.feat.av, .ref [0] 0 0, .bool false, .top, .int .i64 (x.1 : Int)] ++ List.replicate 44 .top, Store.put (fun _ => none) [0] (some ⟨[X.feat.av], 5, false⟩), x.2⟩)
      (fun x => x.1 ≤ X.vals.length ∧ (X.vals.take x.1).all smallE = true) (fun x => X.vals.length - x.1) (0, mm + 1000) ?_ ⟨Nat.zero_le _, by simp⟩ ?_
    · exact Wk.slots (by simp [Fg, List.replicate]) (by omega)
    rintro ⟨i, nn⟩ ⟨hi, hall⟩
    simp only [] at hi hall
    by_cases hlt : i < X.vals.length
    · obtain ⟨e, he⟩ : ∃ e, X.vals[i]? = some e := ⟨_, List.getElem?_eq_getElem hlt⟩
      have hm := List.mem_of_getElem? he
      have hg : (EX.avL X.vals)[i]? = some e.av := by rw [EX.avL_map, List.getElem?_map, he]; rfl
      have dd : decide ((i : Int) < (X.vals.length : Int)) = true := dec_true (by omega)
      simp only [SS, Nat.reduceAdd, reduceIte, load_put, Feat.p3, FX.f_values, EX.avLlen, dd, iaddrS_sl rfl hg, vload_ep, EX.all]
      refine vsCall_VP (hs e hm) (by simp [EX.pure]) ?_
      cases hge : smallE e
      · have : X.vals.all smallE = false := by
          rw [Bool.eq_false_iff]; intro hh
          rw [List.all_eq_true] at hh
          rw [hh e hm] at hge; cases hge
        rw [this]
        simp only [SS, Nat.reduceAdd, reduceIte]
        exact retQ_ret ▸ retQ_of_pure rfl (PureAV.bool _)
      · simp only [SS, Nat.reduceAdd, reduceIte, wrap_succ_i64 i (by omega)]
        refine ⟨(i + 1, nn + 1000), ⟨by simp only []; omega, ?_⟩, by simp only []; omega, Wk.slots (by simp [Fg, List.replicate]) (by omega)⟩
        simp only []
        rw [List.take_add_one, he, List.all_append, hall]
        simp [hge]
    · have dd : decide ((i : Int) < (X.vals.length : Int)) = false := dec_false (by omega)
      have hi' : i = X.vals.length := by omega
      rw [hi', List.take_length] at hall
      rw [hall]
      simp only [SS, Nat.reduceAdd, reduceIte, load_put, Feat.p3, FX.f_values, EX.avLlen, dd]
      exact retQ_ret ▸ retQ_of_pure rfl (PureAV.bool _)
end
end Go.VL
end

section
set_option linter.unusedSimpArgs false
set_option linter.unusedVariables false
namespace Go.VL
theorem bs_str {σ : Store} {q : Id} {x : List UInt8} : vop σ q (.buildSl 1 1 (.str []) [(0, .str x)]) = some { val := .osl q 1 0 1 false, up := [(q, some ⟨[.str x], 1, false⟩)] } := bs1 rfl rfl rfl rfl
theorem strs_one (l : List (List UInt8)) : ((l.map AV.str).all fun e => e.cells.all AV.one) = true := by
  rw [List.all_eq_true]; intro e he; obtain ⟨s, _, rfl⟩ := List.mem_map.1 he; rfl
theorem app_nil_str {σ : Store} {p q : Id} {x : List UInt8} : vappend (σ.put q (some ⟨[.str x], 1, false⟩)) p 1 16 .nils (.osl q 1 0 1 false) = some { val := .osl p 1 0 1 false, rd := [q], up := [(p, some ⟨[.str x], 1, false⟩)] } :=
  vappend_nils (x := .osl q 1 0 1 false) (ys := [.str x]) (elemsOf_osl (bk := ⟨[.str x], 1, false⟩) (Store.put_same _ _ _) rfl (by simp)) (by simp) (by simp) (le_maxLen (by simp)) (strs_one [x])
theorem app_str {σ : Store} {p id q : Id} {o : List (List UInt8)} {x : List UInt8} (hq : q ≠ id) (hb : o.length ≤ 1000000) (h : σ id = some ⟨o.map .str, 1, false⟩) :
    vappend (σ.put q (some ⟨[.str x], 1, false⟩)) p 1 16 (.osl id 1 0 o.length false) (.osl q 1 0 1 false) = some { val := .osl p 1 0 (o.length + 1) false, rd := [id, q], up := [(id, none), (p, some ⟨(o ++ [x]).map .str, 1, false⟩)] } := by
  have := vappend_full (σ := σ.put q (some ⟨[.str x], 1, false⟩)) (p := p) (id := id) (k := 1) (bytes := 16) (len := o.length) (els := o.map .str) (x := .osl q 1 0 1 false) (ys := [.str x]) (rd := [q])
    (elemsOf_osl (bk := ⟨[.str x], 1, false⟩) (Store.put_same _ _ _) rfl (by simp)) (by simp) (by rw [Store.put_other _ _ _ hq.symm]; exact h) (by rw [List.length_map]) (by simp; omega) (le_maxLen (by simp; omega)) (strs_one [x]) (strs_one o)
  rw [this, List.map_append]
  simp
def chs (ck : Nat) (l : List (List UInt8)) : AV := if l = [] then .nils else .osl [ck] 1 0 l.length false
def chb (ck : Nat) (l : List (List UInt8)) : Store := Store.put (fun _ => none) [ck] (if l = [] then none else some ⟨l.map .str, 1, false⟩)
theorem sfx1 {a b : Nat} (h : a ≠ b) : ¬ ([a] : List Nat) <:+ [b] := fun hs => by
  have := hs.eq_of_length rfl
  simp at this; exact h this
theorem view_strs {σ : Store} {id : Id} {a t : List (List UInt8)} {b tt : Bool} (h : σ id = some ⟨(a ++ t).map .str, 1, b⟩) : View σ (.osl id 1 0 a.length tt) (strs a) := by
  refine View.osl (bk := ⟨(a ++ t).map .str, 1, b⟩) h rfl (by simp) ?_ (by rw [List.length_map]) (by intro d hd; obtain ⟨s, _, rfl⟩ := List.mem_map.1 hd; rfl)
  have e : ((((a ++ t).map AV.str).drop 0).take a.length) = a.map AV.str := by
    rw [List.drop_zero, ← List.map_take, List.take_left']
    rfl
  show ViewL _ (flat ((((a ++ t).map AV.str).drop 0).take a.length)) _
  rw [e]
  exact ViewL.pure (by rw [flat_str]; intro c hc; obtain ⟨s, _, rfl⟩ := List.mem_map.1 hc; exact PureAV.str s)
section
variable {P : Program} {G : Nat → Option (List AV)}
theorem needs_ok {f fv fcut fs fc : FuncId} (h : Has P f (w_history_Needs fv fcut fs fc)) (X : FX) (hX : X.Ok) (hil : X.valid = true → X.inputs.length ≤ 1000) (hv : VP P G fv [X.av] (.bool X.valid))
    (hcut : ∀ s ∈ X.inputs, VP P G fcut [.str s, .str [47]] (.tup [.str (Lib.cut s [47]).1, .str (Lib.cut s [47]).2.1, .bool (Lib.cut s [47]).2.2]))
    (hs0 : VP P G fs [.nils] (.tup [])) (hc0 : VP P G fc [.nils] .nils) (sf cf : List (List UInt8) → List (List UInt8)) (hsf : ∀ l, (sf l).length = l.length) (hcf : ∀ l, (cf l).length ≤ l.length) (hcn : cf (sf []) = [])
    (hs : ∀ (l : List (List UInt8)) (id p : Id), l.length ≤ 1000000 → ¬ p <:+ id → CallRel P G fs [.osl id 1 0 l.length false] p [(id, ⟨l.map .str, 1, false⟩)] { val := .tup [], rd := [id], up := [(id, some ⟨(sf l).map .str, 1, false⟩)] })
    (hc : ∀ (l : List (List UInt8)) (id p : Id), l.length ≤ 1000000 → ¬ p <:+ id → CallRel P G fc [.osl id 1 0 l.length false] p [(id, ⟨l.map .str, 1, false⟩)]
      { val := .osl id 1 0 (cf l).length false, rd := [id], up := [(id, some ⟨(cf l ++ List.replicate (l.length - (cf l).length) []).map .str, 1, false⟩)] }) :
    VP P G f [X.av] (strs (if X.valid = true then cf (sf (X.inputs.map fun s => (Lib.cut s [47]).1)) else [])) := by
  show VP P G f [X.feat.av] _
  have hvv : VP P G fv [X.feat.av] (.bool X.valid) := hv
  have hpure := FX.pure X
  cases hval : X.valid
  · rw [hval] at hvv
    rw [if_neg (by decide)]
    refine VP.has h ?_
    simp only [w_history_Needs, SS, Nat.reduceAdd, reduceIte, Feat.one, load_put, Feat.whole]
    refine vsCall_VP hvv (by simp [hpure]) ?_
    simp only [SS, Nat.reduceAdd, reduceIte]
    exact retQ_ret ▸ ⟨_, rfl, View.nils 1⟩
  rw [hval] at hvv
  rw [if_pos rfl]
  have hlen := hil hval
  generalize hnames : (X.inputs.map fun s => (Lib.cut s [47]).1) = names
  have hnl : names.length = X.inputs.length := by rw [← hnames, List.length_map]
  refine VP.has h ?_
  simp only [w_history_Needs, SS, Nat.reduceAdd, reduceIte, Feat.one, load_put, Feat.whole]
  refine vsCall_VP hvv (by simp [hpure]) ?_
  simp only [SS, Nat.reduceAdd, reduceIte, load_put, Feat.p2, FX.f_inputs, len_strs, vwp_loop]
  refine VW.loopQ (α := Nat × Nat × Nat) (fun x => ⟨[X.feat.av, .top, .top, chs x.2.1 (names.take x.1)] ++ List.replicate 9 .top ++ [strs X.inputs, .int .i64 (X.inputs.length : Int), .int .i64 (x.1 : Int)] ++ List.replicate 18 .top, chb x.2.1 (names.take x.1), x.2.2⟩)
    (fun x => x.1 ≤ X.inputs.length ∧ x.2.1 < x.2.2) (fun x => X.inputs.length - x.1) (0, 1, 1000) ?_ ⟨Nat.zero_le _, by decide⟩ ?_
  · refine Wk.forget (by simp [Fg, List.replicate, chs]) (fun j => ?_) (by simp only []; omega)
    left; simp [chb, Store.put]
  rintro ⟨i, ck, nn⟩ ⟨hi, hck⟩
  simp only [] at hi hck
  by_cases hlt : i < X.inputs.length
  · obtain ⟨s, hs2⟩ : ∃ s, X.inputs[i]? = some s := ⟨_, List.getElem?_eq_getElem hlt⟩
    have hm := List.mem_of_getElem? hs2
    have hg : (X.inputs.map AV.str)[i]? = some (.str s) := by rw [List.getElem?_map, hs2]; rfl
    have hia : viaddrS 1 (strs X.inputs) (.int .i64 (i : Int)) = some (.ep (AV.str s).cells 0) := iaddrS_sl rfl hg
    have hpt : part false (AV.str s).cells 0 1 = some (.str s) := rfl
    have dd : decide ((i : Int) < (X.inputs.length : Int)) = true := dec_true (by omega)
    have htk : names.take (i + 1) = names.take i ++ [(Lib.cut s [47]).1] := by
      rw [List.take_add_one, ← hnames, List.getElem?_map, hs2]; rfl
    have hneq : ¬ names.take i ++ [(Lib.cut s [47]).1] = [] := by simp
    have htl : (names.take i).length = i := by rw [List.length_take]; omega
    by_cases h0 : i = 0
    · subst h0
      have e0 : chs ck (names.take 0) = .nils := by simp [chs]
      simp only [e0]
      simp only [SS, Nat.reduceAdd, reduceIte, List.replicate, dd, hia, vload_ep, hpt]
      refine vsCall_VP (hcut s hm) (by simp [PureAV.str]) ?_
      simp only [SS, Nat.reduceAdd, reduceIte, tup3_0, tup3_1, tup3_2, bs_str, app_nil_str, wrap_succ_i64 0 (by omega)]
      refine ⟨(0 + 1, nn + 1 + 3 + 9 + 3, nn + 1000), ⟨by simp only []; omega, by simp only []; omega⟩, by simp only []; omega, ?_⟩
      simp only [htk]
      simp only [List.take_zero, List.nil_append, chs, chb, List.cons_ne_nil, if_false, if_true, List.map_cons, List.map_nil, List.length_singleton]
      refine Wk.forget (by simp [Fg, List.replicate]) (fun j => ?_) (by omega)
      by_cases h1 : j = [nn + 1 + 3 + 9 + 3]
      · subst h1; right; simp [Store.put]
      · left; simp [Store.put, h1]
    · have hne : ¬ names.take i = [] := by intro e; rw [e] at htl; simp at htl; omega
      have e0 : chs ck (names.take i) = .osl [ck] 1 0 (names.take i).length false := if_neg hne
      have hap : ∀ (p q : Id), q ≠ [ck] → vappend ((chb ck (names.take i)).put q (some ⟨[.str (Lib.cut s [47]).1], 1, false⟩)) p 1 16 (.osl [ck] 1 0 (names.take i).length false) (.osl q 1 0 1 false) = some { val := .osl p 1 0 ((names.take i).length + 1) false, rd := [[ck], q], up := [([ck], none), (p, some ⟨(names.take i ++ [(Lib.cut s [47]).1]).map .str, 1, false⟩)] } :=
        fun p q hq => app_str hq (by omega) (by unfold chb; rw [Store.put_same, if_neg hne])
      have hq : ([nn + 1 + 3 + 9 + 2] : List Nat) ≠ [ck] := by intro e; simp at e; omega
      simp only [e0]
      simp only [SS, Nat.reduceAdd, reduceIte, List.replicate, dd, hia, vload_ep, hpt]
      refine vsCall_VP (hcut s hm) (by simp [PureAV.str]) ?_
      simp only [SS, Nat.reduceAdd, reduceIte, tup3_0, tup3_1, tup3_2, bs_str, hap _ _ hq, wrap_succ_i64 i (by omega)]
      refine ⟨(i + 1, nn + 1 + 3 + 9 + 3, nn + 1000), ⟨by simp only []; omega, by simp only []; omega⟩, by simp only []; omega, ?_⟩
      simp only [htk]
      simp only [chs, if_neg hneq, List.length_append, List.length_singleton]
      refine Wk.forget (by simp [Fg, List.replicate]) (fun j => ?_) (by omega)
      unfold chb
      by_cases h1 : j = [nn + 1 + 3 + 9 + 3]
      · subst h1; right; simp only [Store.put_same, if_neg hneq]
      · left; simp [Store.put, h1]
  · have dd : decide ((i : Int) < (X.inputs.length : Int)) = false := dec_false (by omega)
    have hi' : i = names.length := by omega
    have htt : names.take i = names := by rw [hi', List.take_length]
    simp only [htt]
    by_cases h0 : names = []
    · have e0 : chs ck names = .nils := by simp [chs, h0]
      have e1 : cf (sf names) = [] := by rw [h0]; exact hcn
      rw [e1]
      simp only [e0]
      simp only [SS, Nat.reduceAdd, reduceIte, List.replicate, dd]
      refine vsCall_VP (args := [.nils]) hs0 (by simp [PureAV.nils]) ?_
      simp only [SS, Nat.reduceAdd, reduceIte]
      refine vsCall_VP (args := [.nils]) hc0 (by simp [PureAV.nils]) ?_
      simp only [SS, Nat.reduceAdd, reduceIte]
      exact retQ_ret ▸ ⟨_, rfl, View.nils 1⟩
    · have e0 : chs ck names = .osl [ck] 1 0 names.length false := if_neg h0
      simp only [e0]
      simp only [SS, Nat.reduceAdd, reduceIte, List.replicate, dd]
      refine ⟨[([ck], ⟨names.map .str, 1, false⟩)], _, hs names [ck] _ (by omega) (sfx1 (by omega)), by simp [chb, h0, Store.put], by simp, ?_⟩
      simp only [SS, Nat.reduceAdd, reduceIte]
      have hc1 := fun p hp => hc (sf names) [ck] p (by rw [hsf]; omega) hp
      rw [hsf] at hc1
      refine ⟨[([ck], ⟨(sf names).map .str, 1, false⟩)], _, hc1 _ (sfx1 (by omega)), by simp [Store.put], by simp, ?_⟩
      simp only [SS, Nat.reduceAdd, reduceIte]
      exact retQ_ret ▸ ⟨_, rfl, view_strs (t := List.replicate (names.length - (cf (sf names)).length) []) (b := false) (Store.put_same _ _ _)⟩
end
end Go.VL
end

section
set_option linter.unusedSimpArgs false
set_option linter.unusedVariables false
namespace Go.VL
def ltN (n : List UInt8) : List (List UInt8) → Nat
  | [] => 0
  | x :: l => if Op.bytesLess x n = true then ltN n l + 1 else 0
theorem ltN_le (n : List UInt8) : ∀ l, ltN n l ≤ l.length
  | [] => Nat.le_refl _
  | x :: l => by
    rw [ltN]
    split
    · have := ltN_le n l; simp; omega
    · exact Nat.zero_le _
theorem ltN_at (n : List UInt8) : ∀ (l : List (List UInt8)) (k : Nat), k < ltN n l → ∃ x, l[k]? = some x ∧ Op.bytesLess x n = true
  | [], k, h => absurd h (Nat.not_lt_zero k)
  | x :: l, k, h => by
    rw [ltN] at h
    split at h
    · rename_i hx
      cases k with
      | zero => exact ⟨x, rfl, hx⟩
      | succ k => exact ltN_at n l k (by omega)
    · omega
theorem ltN_stop (n : List UInt8) : ∀ (l : List (List UInt8)) (x : List UInt8), l[ltN n l]? = some x → Op.bytesLess x n = false
  | [], x, h => by simp [ltN] at h
  | y :: l, x, h => by
    rw [ltN] at h
    split at h
    · exact ltN_stop n l x (by simpa using h)
    · rename_i hy
      simp at h; subst h; simpa using hy
def insN (out : List (List UInt8)) (n : List UInt8) : List (List UInt8) := if out.contains n = true then out else out.take (ltN n out) ++ [n] ++ out.drop (ltN n out)
theorem insN_len (out : List (List UInt8)) (n : List UInt8) : (insN out n).length ≤ out.length + 1 := by
  unfold insN
  split
  · omega
  · simp only [List.length_append, List.length_take, List.length_drop, List.length_singleton]; omega
def refN (ns : List (List UInt8)) : List (List UInt8) := ns.foldl insN []
theorem refN_snoc (ns : List (List UInt8)) (n : List UInt8) : refN (ns ++ [n]) = insN (refN ns) n := by unfold refN; rw [List.foldl_append]; rfl
theorem refN_len (ns : List (List UInt8)) (k : Nat) : (refN (ns.take k)).length ≤ k := by
  induction k with
  | zero => simp [refN]
  | succ k ih =>
    rcases Nat.lt_or_ge k ns.length with hlt | hge
    · rw [List.take_add_one, List.getElem?_eq_getElem hlt, Option.toList_some, refN_snoc]
      have := insN_len (refN (ns.take k)) ns[k]
      omega
    · rw [List.take_of_length_le (by omega)]
      rw [List.take_of_length_le hge] at ih
      omega
theorem bin_str_lss {a b : List UInt8} : vbinq .lss .str (.str a) (.str b) = some (.bool (Op.bytesLess a b)) := rfl
theorem slice_sl_lo {k l : Nat} {es : List AV} (h : l ≤ es.length) : vslice k (.sl k es) (some (.int .i64 (l : Int))) none none = some (.sl k (es.drop l)) := by
  simp [vslice, vbounds, vbound, h]
theorem app_strs_nil {σ : Store} {p id : Id} {n : Nat} : vappend σ p 1 16 (.osl id 1 0 n false) (.sl 1 []) = some { val := .osl id 1 0 n false, rd := [] } := by simp [vappend, elemsOf]
theorem app_strs {σ : Store} {p id : Id} {o ys : List (List UInt8)} (hy : ys ≠ []) (hb : o.length + ys.length ≤ 1000000) (h : σ id = some ⟨o.map .str, 1, false⟩) :
    vappend σ p 1 16 (.osl id 1 0 o.length false) (.sl 1 (ys.map .str)) = some { val := .osl p 1 0 (o.length + ys.length) false, rd := [id], up := [(id, none), (p, some ⟨(o ++ ys).map .str, 1, false⟩)] } := by
  have := vappend_full (σ := σ) (p := p) (id := id) (k := 1) (bytes := 16) (len := o.length) (els := o.map .str) (x := .sl 1 (ys.map .str)) (ys := ys.map .str) (rd := [])
    elemsOf_sl (by simpa using hy) h (by rw [List.length_map]) (by simp; omega) (le_maxLen (by simp; omega)) (strs_one ys) (strs_one o)
  rw [this, List.map_append, List.length_map]
section
variable {P : Program} {G : Nat → Option (List AV)}
theorem rneeds_ok {f fv ff fh : FuncId} (h : Has P f (w_setsquareref53_Needs fv ff fh)) (X : FX) (hX : X.Ok) (hil : X.valid = true → X.inputs.length ≤ 1000) (hv : VP P G fv [X.av] (.bool X.valid))
    (hf : ∀ s ∈ X.inputs, VP P G ff [.str s] (.str ((featOf s).getD []))) (hh : ∀ (l : List (List UInt8)) (s : List UInt8), l.length ≤ 1000000 → VP P G fh [strs l, .str s] (.bool (l.contains s))) :
    VP P G f [X.av] (strs (if X.valid = true then refN (X.inputs.map fun s => (featOf s).getD []) else [])) := by
  show VP P G f [X.feat.av] _
  have hvv : VP P G fv [X.feat.av] (.bool X.valid) := hv
  have hpure := FX.pure X
  cases hval : X.valid
  · rw [hval] at hvv
    rw [if_neg (by decide)]
    refine VP.has h ?_
    simp only [w_setsquareref53_Needs, SS, Nat.reduceAdd, reduceIte, Feat.one, load_put, Feat.whole]
    refine vsCall_VP hvv (by simp [hpure]) ?_
    simp only [SS, Nat.reduceAdd, reduceIte]
    exact retQ_ret ▸ ⟨_, rfl, View.nils 1⟩
  rw [hval] at hvv
  rw [if_pos rfl]
  have hlen := hil hval
  generalize hnames : (X.inputs.map fun s => (featOf s).getD []) = names
  have hnl : names.length = X.inputs.length := by rw [← hnames, List.length_map]
  refine VP.has h ?_
  simp only [w_setsquareref53_Needs, SS, Nat.reduceAdd, reduceIte, Feat.one, load_put, Feat.whole]
  refine vsCall_VP hvv (by simp [hpure]) ?_
  simp only [SS, Nat.reduceAdd, reduceIte, vwp_loop]
  refine VW.loopQ (α := Nat × Nat) (fun x => ⟨[X.feat.av, .ref [0] 0 0, .top, strs (refN (names.take x.1)), .int .i64 (x.1 : Int)] ++ List.replicate 55 .top, Store.put (fun _ => none) [0] (some ⟨[X.feat.av], 5, false⟩), x.2⟩)
    (fun x => x.1 ≤ X.inputs.length) (fun x => X.inputs.length - x.1) (0, 1000) ?_ (Nat.zero_le _) ?_
  · refine Wk.freeze [] (by simp) (by simp [FgV, List.replicate]; exact .inr (.inr (View.nils 1))) (fun j => ?_) (by omega)
    by_cases h1 : j = [0]
    · subst h1; right; simp [Store.put, frz, Store.app]; rfl
    · left; simp [Store.put, h1]
  rintro ⟨i, nn⟩ hi
  simp only [] at hi
  have hrl := refN_len names i
  generalize hout : refN (names.take i) = out at hrl
  by_cases hlt : i < X.inputs.length
  · obtain ⟨s, hs2⟩ : ∃ s, X.inputs[i]? = some s := ⟨_, List.getElem?_eq_getElem hlt⟩
    have hm := List.mem_of_getElem? hs2
    have hg : (X.inputs.map AV.str)[i]? = some (.str s) := by rw [List.getElem?_map, hs2]; rfl
    have hia : viaddrS 1 (strs X.inputs) (.int .i64 (i : Int)) = some (.ep (AV.str s).cells 0) := iaddrS_sl rfl hg
    have hpt : part false (AV.str s).cells 0 1 = some (.str s) := rfl
    have dd : decide ((i : Int) < (X.inputs.length : Int)) = true := dec_true (by omega)
    generalize hn : (featOf s).getD [] = n
    have hfs := hf s hm
    rw [hn] at hfs
    have hnext : refN (names.take (i + 1)) = insN out n := by
      rw [List.take_add_one, ← hnames, List.getElem?_map, hs2, Option.map_some, Option.toList_some, hnames, refN_snoc, hout, hn]
    simp only [SS, Nat.reduceAdd, reduceIte, load_put, Feat.p2, FX.f_inputs, len_strs, dd, hia, vload_ep, hpt]
    refine vsCall_VP hfs (by simp [PureAV.str]) ?_
    simp only [SS, Nat.reduceAdd, reduceIte]
    refine vsCall_VP (hh out n (by omega)) (by simp [PureAV.str, strs_pure]) ?_
    cases hcon : out.contains n
    · have hins : insN out n = out.take (ltN n out) ++ [n] ++ out.drop (ltN n out) := by unfold insN; rw [hcon]; simp
      simp only [SS, Nat.reduceAdd, reduceIte, vwp_loop]
      have hln := ltN_le n out
      refine VW.loopQ (α := Nat × Nat × Nat) (fun z => ⟨[X.feat.av, .ref [0] 0 0, .top, strs out, .int .i64 (i : Int), .str n, chs z.2.1 (out.take z.1), .int .i64 (z.1 : Int)] ++ List.replicate 52 .top,
        (Store.put (fun _ => none) [0] (some ⟨[X.feat.av], 5, false⟩)).put [z.2.1] (if out.take z.1 = [] then none else some ⟨(out.take z.1).map .str, 1, false⟩), z.2.2⟩)
        (fun z => z.1 ≤ ltN n out ∧ 0 < z.2.1 ∧ z.2.1 < z.2.2) (fun z => ltN n out - z.1) (0, 1, nn + 1000) ?_ ⟨Nat.zero_le _, Nat.one_pos, by simp only []; omega⟩ ?_
      · refine Wk.forget (by simp [Fg, List.replicate, chs]) (fun j => ?_) (by simp only []; omega)
        by_cases h1 : j = [0]
        · subst h1; right; simp [Store.put]
        · left; simp [Store.put, h1]
      rintro ⟨k, ck, mm⟩ ⟨hk, hck0, hck⟩
      simp only [] at hk hck0 hck
      have htl : (out.take k).length = k := by rw [List.length_take]; omega
      by_cases hkl : k < ltN n out
      · obtain ⟨x, hx, hxn⟩ := ltN_at n out k hkl
        have hgx : (out.map AV.str)[k]? = some (.str x) := by rw [List.getElem?_map, hx]; rfl
        have hiax : viaddrS 1 (strs out) (.int .i64 (k : Int)) = some (.ep (AV.str x).cells 0) := iaddrS_sl rfl hgx
        have hptx : part false (AV.str x).cells 0 1 = some (.str x) := rfl
        have d1 : decide ((k : Int) < (out.length : Int)) = true := dec_true (by omega)
        have htk : out.take (k + 1) = out.take k ++ [x] := by rw [List.take_add_one, hx]; rfl
        have hneq : ¬ out.take k ++ [x] = [] := by simp
        by_cases h0 : k = 0
        · subst h0
          have e0 : chs ck (out.take 0) = .nils := by simp [chs]
          simp only [e0]
          simp only [SS, Nat.reduceAdd, reduceIte, len_strs, d1, hiax, vload_ep, hptx, bin_str_lss, hxn, bs_str, app_nil_str, wrap_succ_i64 0 (by omega)]
          refine ⟨(0 + 1, mm + 12 + 6, mm + 1000), ⟨by simp only []; omega, by simp only []; omega, by simp only []; omega⟩, by simp only []; omega, ?_⟩
          simp only [htk, List.take_zero, List.nil_append, chs, List.cons_ne_nil, if_false, List.length_singleton, List.map_cons, List.map_nil]
          refine Wk.forget (by simp [Fg, List.replicate]) (fun j => ?_) (by omega)
          by_cases h1 : j = [mm + 12 + 6]
          · subst h1; right; simp [Store.put]
          by_cases h2 : j = [0]
          · subst h2; right; simp [Store.put]; omega
          · left; simp [Store.put, h1, h2]
        · have hne : ¬ out.take k = [] := by intro e; rw [e] at htl; simp at htl; omega
          have e0 : chs ck (out.take k) = .osl [ck] 1 0 (out.take k).length false := if_neg hne
          have hap : ∀ (p q : Id), q ≠ [ck] → vappend (((Store.put (fun _ => none) [0] (some ⟨[X.feat.av], 5, false⟩)).put [ck] (if out.take k = [] then none else some ⟨(out.take k).map .str, 1, false⟩)).put q (some ⟨[.str x], 1, false⟩)) p 1 16 (.osl [ck] 1 0 (out.take k).length false) (.osl q 1 0 1 false) = some { val := .osl p 1 0 ((out.take k).length + 1) false, rd := [[ck], q], up := [([ck], none), (p, some ⟨(out.take k ++ [x]).map .str, 1, false⟩)] } :=
            fun p q hq => app_str hq (by omega) (by rw [Store.put_same, if_neg hne])
          have hq : ([mm + 12 + 5] : List Nat) ≠ [ck] := by intro e; simp at e; omega
          simp only [e0]
          simp only [SS, Nat.reduceAdd, reduceIte, len_strs, d1, hiax, vload_ep, hptx, bin_str_lss, hxn, bs_str, hap _ _ hq, wrap_succ_i64 k (by omega)]
          refine ⟨(k + 1, mm + 12 + 6, mm + 1000), ⟨by simp only []; omega, by simp only []; omega, by simp only []; omega⟩, by simp only []; omega, ?_⟩
          simp only [htk, chs, if_neg hneq, List.length_append, List.length_singleton]
          refine Wk.forget (by simp [Fg, List.replicate]) (fun j => ?_) (by omega)
          by_cases h1 : j = [mm + 12 + 6]
          · subst h1; right; simp [Store.put]
          by_cases h2 : j = [0]
          · subst h2; right; simp [Store.put]; omega
          · left; simp [Store.put, h1, h2]
      · have hke : k = ltN n out := by omega
        rw [← hke] at hins
        have hslz : vslice 1 (strs out) (some (.int .i64 0)) none none = some (.sl 1 (out.map .str)) := slice_sl_lo (k := 1) (l := 0) (es := out.map AV.str) (Nat.zero_le _)
        have hsl : vslice 1 (strs out) (some (.int .i64 (((out.take k).length : Nat) : Int))) none none = some (.sl 1 ((out.drop k).map .str)) := by
          have := slice_sl_lo (k := 1) (l := k) (es := out.map AV.str) (by rw [List.length_map]; omega)
          rw [List.map_drop, htl]; exact this
        rw [hins] at hnext
        by_cases hkl2 : k < out.length
        case pos =>
          obtain ⟨x, hx⟩ : ∃ x, out[k]? = some x := ⟨_, List.getElem?_eq_getElem hkl2⟩
          have hxn : Op.bytesLess x n = false := ltN_stop n out x (by rw [← hke]; exact hx)
          have hgx : (out.map AV.str)[k]? = some (.str x) := by rw [List.getElem?_map, hx]; rfl
          have hiax : viaddrS 1 (strs out) (.int .i64 (k : Int)) = some (.ep (AV.str x).cells 0) := iaddrS_sl rfl hgx
          have hptx : part false (AV.str x).cells 0 1 = some (.str x) := rfl
          have d1 : decide ((k : Int) < (out.length : Int)) = true := dec_true (by omega)
          have hdn : out.drop k ≠ [] := by intro e; have := congrArg List.length e; rw [List.length_drop] at this; simp at this; omega
          by_cases h0 : k = 0
          · have e0 : chs ck (out.take k) = .nils := by simp [chs, h0]
            have hins0 : out.take k = [] := by rw [h0]; rfl
            have hdr0 : out.drop k = out := by rw [h0]; rfl
            rw [hdr0] at hdn
            have hap2 : ∀ (σ : Store) (p : Id), vappend ((σ.put [mm + 12 + 3 + 2] (some ⟨[.str n], 1, false⟩)).put [mm + 12 + 3 + 3] (some ⟨[.str n], 1, false⟩)) p 1 16 (.osl [mm + 12 + 3 + 3] 1 0 1 false) (.sl 1 (out.map .str)) = some { val := .osl p 1 0 (1 + out.length) false, rd := [[mm + 12 + 3 + 3]], up := [([mm + 12 + 3 + 3], none), (p, some ⟨([n] ++ out).map .str, 1, false⟩)] } := fun σ p =>
              app_strs (o := [n]) hdn (by simp; omega) (Store.put_same _ _ _)
            rw [hins0, hdr0, List.nil_append] at hins
            simp only [e0]
            simp only [SS, DD, Nat.reduceAdd, reduceIte, len_strs, d1, hiax, vload_ep, hptx, bin_str_lss, hxn, bs_str, app_nil_str, hslz, hap2, wrap_succ_i64 i (by omega)]
            refine ⟨by simp [allApart, apart], ?_⟩
            try rw [hins0, hdr0, List.nil_append] at hnext
            refine ⟨(i + 1, mm + 1000), by simp only []; omega, by simp only []; omega, ?_⟩
            simp only [hnext]
            refine Wk.freeze [([mm + 12 + 3 + 7], ⟨([n] ++ out).map .str, 1, false⟩)] (by simp [Store.put]) ?_ (fun j => ?_) (by omega)
            · have hv := view_strs (σ := Store.of [([mm + 12 + 3 + 7], ⟨([n] ++ out).map AV.str, 1, false⟩)]) (id := [mm + 12 + 3 + 7]) (a := [n] ++ out) (t := []) (b := false) (tt := false) (by rw [List.append_nil]; simp [Store.of])
              rw [List.length_append, List.length_singleton] at hv
              simp [FgV, List.replicate]
              right; right
              simpa using hv
            · by_cases h1 : j = [0]
              · subst h1; right; simp [Store.put, frz, Store.app] <;> omega
              · left; simp [Store.put, h1]
          · have hne : ¬ out.take k = [] := by intro e; rw [e] at htl; simp at htl; omega
            have e0 : chs ck (out.take k) = .osl [ck] 1 0 (out.take k).length false := if_neg hne
            have hap : ∀ (p q : Id), q ≠ [ck] → vappend (((Store.put (fun _ => none) [0] (some ⟨[X.feat.av], 5, false⟩)).put [ck] (if out.take k = [] then none else some ⟨(out.take k).map .str, 1, false⟩)).put q (some ⟨[.str n], 1, false⟩)) p 1 16 (.osl [ck] 1 0 (out.take k).length false) (.osl q 1 0 1 false) = some { val := .osl p 1 0 ((out.take k).length + 1) false, rd := [[ck], q], up := [([ck], none), (p, some ⟨(out.take k ++ [n]).map .str, 1, false⟩)] } :=
              fun p q hq => app_str hq (by omega) (by rw [Store.put_same, if_neg hne])
            have hq : ([mm + 12 + 3 + 2] : List Nat) ≠ [ck] := by intro e; simp at e; omega
            have hap2 : ∀ (σ : Store) (p : Id), vappend (σ.put [mm + 12 + 3 + 3] (some ⟨(out.take k ++ [n]).map .str, 1, false⟩)) p 1 16 (.osl [mm + 12 + 3 + 3] 1 0 ((out.take k).length + 1) false) (.sl 1 ((out.drop k).map .str)) = some { val := .osl p 1 0 ((out.take k).length + 1 + (out.drop k).length) false, rd := [[mm + 12 + 3 + 3]], up := [([mm + 12 + 3 + 3], none), (p, some ⟨(out.take k ++ [n] ++ out.drop k).map .str, 1, false⟩)] } := fun σ p => by
              have := app_strs (σ := σ.put [mm + 12 + 3 + 3] (some ⟨(out.take k ++ [n]).map .str, 1, false⟩)) (p := p) (o := out.take k ++ [n]) (ys := out.drop k) hdn (by rw [List.length_append, htl, List.length_drop, List.length_singleton]; omega) (Store.put_same _ _ _)
              rwa [List.length_append, List.length_singleton] at this
            simp only [e0]
            simp only [SS, DD, Nat.reduceAdd, reduceIte, len_strs, d1, hiax, vload_ep, hptx, bin_str_lss, hxn, bs_str, hap _ _ hq, hsl, hap2, wrap_succ_i64 i (by omega)]
            refine ⟨by simp [allApart, apart], ?_⟩
            refine ⟨(i + 1, mm + 1000), by simp only []; omega, by simp only []; omega, ?_⟩
            simp only [hnext]
            refine Wk.freeze [([mm + 12 + 3 + 7], ⟨(out.take k ++ [n] ++ out.drop k).map .str, 1, false⟩)] (by simp [Store.put]) ?_ (fun j => ?_) (by omega)
            · have hv := view_strs (σ := Store.of [([mm + 12 + 3 + 7], ⟨(out.take k ++ [n] ++ out.drop k).map AV.str, 1, false⟩)]) (id := [mm + 12 + 3 + 7]) (a := out.take k ++ [n] ++ out.drop k) (t := []) (b := false) (tt := false) (by rw [List.append_nil]; simp [Store.of])
              rw [List.length_append, List.length_append, List.length_singleton] at hv
              simp [FgV, List.replicate]
              right; right
              simpa using hv
            · by_cases h1 : j = [0]
              · subst h1; right; simp [Store.put, frz, Store.app] <;> omega
              · left; simp [Store.put, h1]
        case neg =>
          have d1 : decide ((k : Int) < (out.length : Int)) = false := dec_false (by omega)
          have hdn : out.drop k = [] := List.drop_of_length_le (by omega)
          by_cases h0 : k = 0
          · have e0 : chs ck (out.take k) = .nils := by simp [chs, h0]
            have hins0 : out.take k = [] := by rw [h0]; rfl
            have hdr0 : out.drop k = out := by rw [h0]; rfl
            have ho : out = [] := by rw [← hdr0]; exact hdn
            rw [hins0, hdr0, ho, List.nil_append, List.append_nil] at hins
            have hslz' : vslice 1 (strs out) (some (.int .i64 0)) none none = some (.sl 1 []) := by rw [hslz, ho]; rfl
            simp only [e0]
            simp only [SS, DD, Nat.reduceAdd, reduceIte, len_strs, d1, bs_str, app_nil_str, hslz', app_strs_nil, wrap_succ_i64 i (by omega)]
            refine ⟨by simp [allApart, apart], ?_⟩
            try rw [hins0, hdr0, ho, List.nil_append, List.append_nil] at hnext
            refine ⟨(i + 1, mm + 1000), by simp only []; omega, by simp only []; omega, ?_⟩
            simp only [hnext]
            refine Wk.freeze [([mm + 12 + 3 + 3], ⟨([n]).map .str, 1, false⟩)] (by simp [Store.put]) ?_ (fun j => ?_) (by omega)
            · have hv := view_strs (σ := Store.of [([mm + 12 + 3 + 3], ⟨([n]).map AV.str, 1, false⟩)]) (id := [mm + 12 + 3 + 3]) (a := [n]) (t := []) (b := false) (tt := false) (by rw [List.append_nil]; simp [Store.of])
              rw [List.length_singleton] at hv
              simp [FgV, List.replicate]
              right; right
              simpa using hv
            · by_cases h1 : j = [0]
              · subst h1; right; simp [Store.put, frz, Store.app] <;> omega
              · left; simp [Store.put, h1]
          · have hne : ¬ out.take k = [] := by intro e; rw [e] at htl; simp at htl; omega
            have e0 : chs ck (out.take k) = .osl [ck] 1 0 (out.take k).length false := if_neg hne
            have hap : ∀ (p q : Id), q ≠ [ck] → vappend (((Store.put (fun _ => none) [0] (some ⟨[X.feat.av], 5, false⟩)).put [ck] (if out.take k = [] then none else some ⟨(out.take k).map .str, 1, false⟩)).put q (some ⟨[.str n], 1, false⟩)) p 1 16 (.osl [ck] 1 0 (out.take k).length false) (.osl q 1 0 1 false) = some { val := .osl p 1 0 ((out.take k).length + 1) false, rd := [[ck], q], up := [([ck], none), (p, some ⟨(out.take k ++ [n]).map .str, 1, false⟩)] } :=
              fun p q hq => app_str hq (by omega) (by rw [Store.put_same, if_neg hne])
            have hq : ([mm + 12 + 3 + 2] : List Nat) ≠ [ck] := by intro e; simp at e; omega
            rw [hdn, List.append_nil] at hins
            have hsl' : vslice 1 (strs out) (some (.int .i64 (((out.take k).length : Nat) : Int))) none none = some (.sl 1 []) := by rw [hsl, hdn]; rfl
            simp only [e0]
            simp only [SS, DD, Nat.reduceAdd, reduceIte, len_strs, d1, bs_str, hap _ _ hq, hsl', app_strs_nil, wrap_succ_i64 i (by omega)]
            refine ⟨by simp [allApart, apart], ?_⟩
            try rw [hdn, List.append_nil] at hnext
            refine ⟨(i + 1, mm + 1000), by simp only []; omega, by simp only []; omega, ?_⟩
            simp only [hnext]
            refine Wk.freeze [([mm + 12 + 3 + 3], ⟨(out.take k ++ [n]).map .str, 1, false⟩)] (by simp [Store.put]) ?_ (fun j => ?_) (by omega)
            · have hv := view_strs (σ := Store.of [([mm + 12 + 3 + 3], ⟨(out.take k ++ [n]).map AV.str, 1, false⟩)]) (id := [mm + 12 + 3 + 3]) (a := out.take k ++ [n]) (t := []) (b := false) (tt := false) (by rw [List.append_nil]; simp [Store.of])
              rw [List.length_append, List.length_singleton] at hv
              simp [FgV, List.replicate]
              right; right
              simpa using hv
            · by_cases h1 : j = [0]
              · subst h1; right; simp [Store.put, frz, Store.app] <;> omega
              · left; simp [Store.put, h1]
    · have hins : insN out n = out := by unfold insN; rw [hcon]; simp
      rw [hins] at hnext
      simp only [SS, Nat.reduceAdd, reduceIte, wrap_succ_i64 i (by omega)]
      refine ⟨(i + 1, nn + 1000), by simp only []; omega, by simp only []; omega, ?_⟩
      simp only [hnext]
      exact Wk.slots (by simp [Fg, List.replicate]) (by omega)
  · have dd : decide ((i : Int) < (X.inputs.length : Int)) = false := dec_false (by omega)
    have hi' : i = names.length := by omega
    have htt : names.take i = names := by rw [hi', List.take_length]
    rw [← htt, hout]
    simp only [SS, Nat.reduceAdd, reduceIte, load_put, Feat.p2, FX.f_inputs, len_strs, dd]
    exact retQ_ret ▸ retQ_of_pure rfl (strs_pure _)
end
end Go.VL
end

section
namespace Go.VL
open Go.Sort Go.Lib
theorem lt_irrefl' (a : List UInt8) : ¬ a < a := List.lt_irrefl a
theorem lt_trans' {a b c : List UInt8} (h : a < b) (k : b < c) : a < c := List.lt_trans h k
theorem lt_tri {a b : List UInt8} (h : ¬ a < b) (hn : a ≠ b) : b < a :=
  Decidable.byContradiction fun k => hn (List.le_antisymm (show a ≤ b from k) (show b ≤ a from h))
def SSo (l : List (List UInt8)) : Prop := l.Pairwise (· < ·)
theorem ss_ext : ∀ {l m : List (List UInt8)}, SSo l → SSo m → (∀ x, x ∈ l ↔ x ∈ m) → l = m
  | [], [], _, _, _ => rfl
  | [], b :: m, _, _, h => by have := (h b).2 (by simp); simp at this
  | a :: l, [], _, _, h => by have := (h a).1 (by simp); simp at this
  | a :: l, b :: m, hl, hm, h => by
    unfold SSo at hl hm
    rw [List.pairwise_cons] at hl hm
    have hab : a = b := by
      have h1 := (h a).1 (by simp)
      have h2 := (h b).2 (by simp)
      rcases List.mem_cons.1 h1 with e | h1
      · exact e
      · rcases List.mem_cons.1 h2 with e | h2
        · exact e.symm
        · exact absurd (lt_trans' (hm.1 a h1) (hl.1 b h2)) (lt_irrefl' b)
    subst hab
    refine congrArg (a :: ·) (ss_ext hl.2 hm.2 fun x => ?_)
    constructor
    · intro hx
      rcases List.mem_cons.1 ((h x).1 (by simp [hx])) with e | q
      · subst e; exact absurd (hl.1 x hx) (lt_irrefl' x)
      · exact q
    · intro hx
      rcases List.mem_cons.1 ((h x).2 (by simp [hx])) with e | q
      · subst e; exact absurd (hm.1 x hx) (lt_irrefl' x)
      · exact q
theorem insN_mem (out : List (List UInt8)) (n x : List UInt8) : x ∈ insN out n ↔ x ∈ out ∨ x = n := by
  unfold insN
  split
  · rename_i h
    have hn : n ∈ out := by simpa using h
    constructor
    · exact .inl
    · rintro (q | rfl); exact q; exact hn
  · have e := List.take_append_drop (ltN n out) out
    constructor
    · intro q
      rw [List.append_assoc, List.mem_append, List.mem_append, List.mem_singleton] at q
      rcases q with q | q | q
      · exact .inl (List.mem_of_mem_take q)
      · exact .inr q
      · exact .inl (List.mem_of_mem_drop q)
    · rintro (q | rfl)
      · rw [← e, List.mem_append] at q
        rw [List.append_assoc, List.mem_append, List.mem_append]
        rcases q with q | q
        · exact .inl q
        · exact .inr (.inr q)
      · simp
theorem insN_ss {out : List (List UInt8)} (n : List UInt8) (h : SSo out) : SSo (insN out n) := by
  unfold insN
  split
  · exact h
  · rename_i hc
    have hn : n ∉ out := by simpa using hc
    have e := List.take_append_drop (ltN n out) out
    unfold SSo at h ⊢
    rw [← e, List.pairwise_append] at h
    have hlo : ∀ x ∈ out.take (ltN n out), x < n := by
      intro x hx
      obtain ⟨k, hk, hkx⟩ := List.mem_iff_getElem.1 hx
      rw [List.length_take] at hk
      obtain ⟨y, hy, hyn⟩ := ltN_at n out k (by omega)
      rw [List.getElem_take] at hkx
      rw [List.getElem?_eq_getElem (by omega), Option.some.injEq, hkx] at hy
      subst hy
      rw [Go.Proofs.bytesLess_eq] at hyn
      simpa using hyn
    have hhi : ∀ x ∈ out.drop (ltN n out), n < x := by
      intro x hx
      cases hd : out.drop (ltN n out) with
      | nil => rw [hd] at hx; simp at hx
      | cons y t =>
        have hy : out[ltN n out]? = some y := by
          have := congrArg (·[0]?) hd
          simpa using this
        have hny := ltN_stop n out y hy
        rw [Go.Proofs.bytesLess_eq] at hny
        have hyn : n < y := lt_tri (by simpa using hny) (fun e => hn (by rw [← e]; exact List.mem_of_getElem? hy))
        rw [hd] at hx
        rcases List.mem_cons.1 hx with rfl | hx
        · exact hyn
        · rw [hd] at h
          exact lt_trans' hyn ((List.pairwise_cons.1 h.2.1).1 x hx)
    rw [List.append_assoc, List.pairwise_append]
    refine ⟨h.1, ?_, ?_⟩
    · rw [List.singleton_append, List.pairwise_cons]
      exact ⟨hhi, h.2.1⟩
    · intro a ha b hb
      rw [List.singleton_append] at hb
      rcases List.mem_cons.1 hb with rfl | hb
      · exact hlo a ha
      · exact h.2.2 a ha b hb
theorem foldl_ss : ∀ (ns out : List (List UInt8)), SSo out → SSo (ns.foldl insN out) ∧ ∀ x, x ∈ ns.foldl insN out ↔ x ∈ out ∨ x ∈ ns
  | [], out, h => ⟨h, by simp⟩
  | n :: ns, out, h => by
    obtain ⟨h1, h2⟩ := foldl_ss ns (insN out n) (insN_ss n h)
    refine ⟨h1, fun x => ?_⟩
    rw [List.foldl_cons, h2, insN_mem]
    simp [or_assoc]
theorem refN_law (ns : List (List UInt8)) : SSo (refN ns) ∧ ∀ x, x ∈ refN ns ↔ x ∈ ns := by
  obtain ⟨h1, h2⟩ := foldl_ss ns [] List.Pairwise.nil
  exact ⟨h1, fun x => by rw [refN, h2]; simp⟩
theorem compact_ss (l : List (List UInt8)) (h : l.Pairwise fun a b => ¬ b < a) : ∀ m, m ≤ l.length → SSo (compactUpTo l.toArray m) ∧ (∀ x, x ∈ compactUpTo l.toArray m ↔ x ∈ l.take m) := by
  intro m
  induction m with
  | zero => intro _; exact ⟨by simp [compactUpTo, SSo], by simp [compactUpTo]⟩
  | succ m ih =>
    intro hm
    obtain ⟨h1, h2⟩ := ih (by omega)
    have hlt : m < l.length := by omega
    have hg : l.toArray[m]! = l[m] := by rw [getElem!_pos l.toArray m (by simpa using hlt)]; rfl
    have htk : l.take (m + 1) = l.take m ++ [l[m]] := by rw [List.take_add_one, List.getElem?_eq_getElem hlt]; rfl
    rw [compactUpTo_succ, hg, htk]
    cases hk : keeps l.toArray m
    · simp only [Bool.false_eq_true, if_false, List.append_nil]
      refine ⟨h1, fun x => ?_⟩
      have hm0 : m ≠ 0 ∧ l.toArray[m]! = l.toArray[m - 1]! := by
        unfold keeps at hk
        simp only [decide_eq_false_iff_not, not_or, Decidable.not_not] at hk
        exact hk
      have hg1 : l.toArray[m - 1]! = l[m - 1] := by rw [getElem!_pos l.toArray (m - 1) (by simp; omega)]; rfl
      rw [hg, hg1] at hm0
      rw [h2, List.mem_append, List.mem_singleton]
      constructor
      · exact .inl
      · rintro (q | rfl)
        · exact q
        · rw [hm0.2]
          exact List.mem_iff_getElem.2 ⟨m - 1, by rw [List.length_take]; omega, by rw [List.getElem_take]⟩
    · simp only [if_true]
      refine ⟨?_, fun x => by rw [List.mem_append, List.mem_append, h2]⟩
      unfold SSo at h1 ⊢
      rw [List.pairwise_append]
      refine ⟨h1, by simp, fun a ha b hb => ?_⟩
      rw [List.mem_singleton] at hb
      subst hb
      have hat := (h2 a).1 ha
      obtain ⟨j, hj, rfl⟩ := List.mem_iff_getElem.1 hat
      rw [List.length_take] at hj
      rw [List.getElem_take]
      have hm0 : m ≠ 0 := by omega
      have hg1 : l.toArray[m - 1]! = l[m - 1] := by rw [getElem!_pos l.toArray (m - 1) (by simp; omega)]; rfl
      have hne : l[m] ≠ l[m - 1] := by
        unfold keeps at hk
        simp only [decide_eq_true_eq] at hk
        rcases hk with q | q
        · exact absurd q hm0
        · rwa [hg, hg1] at q
      have hpw := List.pairwise_iff_getElem.1 h
      have hlast : l[m - 1] < l[m] := lt_tri (hpw (m - 1) m (by omega) hlt (by omega)) hne
      by_cases hjm : j = m - 1
      · subst hjm; exact hlast
      · have h3 := hpw j (m - 1) (by omega) (by omega) (by omega)
        rcases Decidable.em (l[j] = l[m - 1]) with e | e
        · rw [e]; exact hlast
        · exact lt_trans' (lt_tri h3 (Ne.symm e)) hlast
theorem needs_law (ns : List (List UInt8)) : Lib.compact (ns.mergeSort fun x y => decide (x ≤ y)) = refN ns := by
  have hp : (ns.mergeSort fun x y => decide (x ≤ y)).Pairwise fun a b => ¬ b < a := by
    refine (List.pairwise_mergeSort (le := fun x y : List UInt8 => decide (x ≤ y)) (fun a b c h k => ?_) (fun a b => ?_) ns).imp ?_
    · simp only [decide_eq_true_eq] at h k ⊢; exact List.le_trans h k
    · rcases List.le_total a b with q | q <;> simp [q]
    · intro a b h
      simp only [decide_eq_true_eq] at h
      exact h
  obtain ⟨h1, h2⟩ := compact_ss _ hp _ (Nat.le_refl _)
  obtain ⟨h3, h4⟩ := refN_law ns
  refine ss_ext h1 h3 fun x => ?_
  have h2' := h2 x
  rw [List.take_length, List.mem_mergeSort] at h2'
  exact h2'.trans (h4 x).symm
end Go.VL
end

section
set_option linter.unusedSimpArgs false
set_option linter.unusedVariables false
namespace Go.VL
section
variable {P : Program} {G : Nat → Option (List AV)}
theorem historyNeeds_ok {f fa fs f1 f2 : FuncId} (h : Has P f (w_setsquarelaw53_HistoryNeeds fa fs f1 f2)) (X : FX) (hX : X.Ok) (ha : VP P G fa [] (.bool true)) (hs : VP P G fs [X.av] (.bool X.small)) (n : List (List UInt8)) (hnl : n.length ≤ 1000000)
    (h1 : X.small = true → VP P G f1 [X.av] (strs n)) (h2 : X.small = true → VP P G f2 [X.av] (strs n)) : VP P G f [X.av] (.bool true) := by
  have hpure := FX.pure X
  show VP P G f [X.feat.av] _
  have hs' : VP P G fs [X.feat.av] (.bool X.small) := hs
  cases hsm : X.small
  · rw [hsm] at hs'
    refine VP.has h ?_
    simp only [w_setsquarelaw53_HistoryNeeds, SS, DD, Nat.reduceAdd, reduceIte, Feat.one]
    refine vsCall_VP ha (by simp) ?_
    simp only [SS, DD, Nat.reduceAdd, reduceIte, load_put, Feat.whole]
    refine vsCall_VP hs' (by simp [hpure]) ?_
    simp only [SS, DD, Nat.reduceAdd, reduceIte]
    refine vsCall_VP ha (by simp) ?_
    simp only [SS, DD, Nat.reduceAdd, reduceIte]
    exact retQ_ret ▸ retQ_of_pure rfl (PureAV.bool _)
  have g1 : VP P G f1 [X.feat.av] (strs n) := h1 hsm
  have g2 : VP P G f2 [X.feat.av] (strs n) := h2 hsm
  rw [hsm] at hs'
  have d0 : decide ((n.length : Int) ≠ (n.length : Int)) = false := dec_false (by simp)
  refine VP.has h ?_
  simp only [w_setsquarelaw53_HistoryNeeds, SS, DD, Nat.reduceAdd, reduceIte, Feat.one]
  refine vsCall_VP ha (by simp) ?_
  simp only [SS, DD, Nat.reduceAdd, reduceIte, load_put, Feat.whole]
  refine vsCall_VP hs' (by simp [hpure]) ?_
  simp only [SS, DD, Nat.reduceAdd, reduceIte, load_put, Feat.whole]
  refine vdCall_VP g1 (by simp [hpure]) ?_
  simp only [SS, DD, Nat.reduceAdd, reduceIte, load_put, Feat.whole]
  refine vdCall_VP g2 (by simp [hpure]) ?_
  simp only [SS, DD, Nat.reduceAdd, reduceIte]
  refine ⟨by simp [allApart, apart], ?_⟩
  simp only [SS, DD, Nat.reduceAdd, reduceIte, len_strs, d0, vwp_loop]
  refine VW.loopQ (α := Nat × Nat) (fun x => ⟨[.top, .top, .top, strs n, strs n] ++ List.replicate 19 .top ++ [.int .i64 (n.length : Int), .int .i64 (x.1 : Int)] ++ List.replicate 12 .top, fun _ => none, x.2⟩)
    (fun x => x.1 ≤ n.length) (fun x => n.length - x.1) (0, 1000) ?_ (Nat.zero_le _) ?_
  · exact Wk.forget (by simp [Fg, List.replicate]) (fun j => .inl rfl) (by omega)
  rintro ⟨i, nn⟩ hi
  simp only [] at hi
  by_cases hlt : i < n.length
  · obtain ⟨c, hc⟩ : ∃ c, n[i]? = some c := ⟨_, List.getElem?_eq_getElem hlt⟩
    have hg : (n.map AV.str)[i]? = some (.str c) := by rw [List.getElem?_map, hc]; rfl
    have dd : decide ((i : Int) < (n.length : Int)) = true := dec_true (by omega)
    have hpt : part false (AV.str c).cells 0 1 = some (.str c) := rfl
    have hia : viaddrS 1 (strs n) (.int .i64 (i : Int)) = some (.ep (AV.str c).cells 0) := iaddrS_sl rfl hg
    have hne : (!(c == c)) = false := by simp
    simp only [SS, DD, Nat.reduceAdd, reduceIte, List.replicate, dd, hia, vload_ep, hpt, hne, wrap_succ_i64 i (by omega)]
    refine ⟨by simp [allApart, apart], (i + 1, nn + 1000), by simp only []; omega, by simp only []; omega, Wk.slots (by simp [Fg, List.replicate]) (by omega)⟩
  · have dd : decide ((i : Int) < (n.length : Int)) = false := dec_false (by omega)
    simp only [SS, DD, Nat.reduceAdd, reduceIte, List.replicate, dd]
    exact retQ_ret ▸ retQ_of_pure rfl (PureAV.bool _)
end
end Go.VL
end

section
set_option maxRecDepth 100000
namespace Go.Proofs.YtcomlgfjnjpebaaGreatDoor
open Go.VL Go.Proofs Go.RowKit
def gN (m : Int) : Nat → Option (List AV)
  | 0 => some operandsA
  | 1 => some [.int .i64 m]
  | 2 => some pow10A
  | _ => none
theorem VP.up {P : Program} {G : Nat → Option (List AV)} {f : FuncId} {args : List AV} {r : AV} (h : VP P (fun _ => none) f args r) : VP P G f args r :=
  ⟨h.1, fun w vs ok hi hr => h.2 w vs ok ⟨hi.okb, hi.blk, hi.inj, fun _ _ h => by simp at h, hi.new⟩ hr⟩
section
variable (m : Int)
theorem letter73 (c : UInt8) : VP Tryz.prog (gN m) 73 [byteAV c] (.bool (isLetterB c)) := isLetter_ok has_lexer_isLetter c
theorem digit103 (c : UInt8) : VP Tryz.prog (gN m) 103 [byteAV c] (.bool (isDigitB c)) := isDigit_ok has_lexer_isDigit c
theorem word75 (c : UInt8) : VP Tryz.prog (gN m) 75 [byteAV c] (.bool (isWordB c)) := isWord_ok has_lexer_isWord (letter73 m) (digit103 m) c
theorem span74 (s : List UInt8) (hs : s.length < 9223372036854775807) : VP Tryz.prog (gN m) 74 [.str s, .fn (.func 75) [] []] (.int .i64 (spanN isWordB s)) := span_ok has_lexer_span (word75 m) s hs
theorem name50 (s : List UInt8) : VP Tryz.prog (gN m) 50 [.str s] (.bool (isNameB s)) := isName_ok has_lexer_IsName (letter73 m) (span74 m) s
theorem h117 : Has Tryz.prog 117 w_lexer_isLetter := has_setsquareref21_letter
theorem h118 : Has Tryz.prog 118 w_lexer_isDigit := has_setsquareref21_digit
theorem letter117 (c : UInt8) : VP Tryz.prog (gN m) 117 [byteAV c] (.bool (isLetterB c)) := isLetter_ok h117 c
theorem digit118 (c : UInt8) : VP Tryz.prog (gN m) 118 [byteAV c] (.bool (isDigitB c)) := isDigit_ok h118 c
theorem word92 (s : List UInt8) (hs : s.length < 9223372036854775807) : VP Tryz.prog (gN m) 92 [.str s, .int .i64 0] (.int .i64 ((wordN s : Nat) : Int)) := word_ok has_setsquareref21_word (letter117 m) (digit118 m) s hs
theorem name60 (s : List UInt8) : VP Tryz.prog (gN m) 60 [.str s] (.bool (isNameB s)) := rIsName_ok has_setsquareref21_IsName (word92 m) s
theorem wl {ws : List Nat} (hw : Wd ws) (h : ws.length ≤ 8) : wlen (val ws) ≤ 8 := Nat.le_trans (wlen_val hw) h
theorem sgn_abs (b : Bool) (n : Nat) : (sgn b n).natAbs = n := by cases b <;> simp [sgn]
theorem rv123 (n1 : Bool) (w1 : List Nat) (n2 : Bool) (w2 : List Nat) (hw1 : Wd w1) (hw2 : Wd w2) (hl1 : w1.length ≤ 8) (hl2 : w2.length ≤ 8) : VP Tryz.prog (gN m) 123 [RR n1 w1 n2 w2] (.bool (rrB n1 w1 n2 w2)) := by
  have a1 := wl hw1 hl1
  have a2 := wl hw2 hl2
  have := rvalid_ok has_rational_Valid n1 w1 n2 w2 hw1 hw2 (g := (Nat.gcd (val w1) (val w2) : Nat)) (iv136 (gN m) n1 w1 (by omega)) (iv136 (gN m) n2 w2 (by omega)) (g137 (gN m) _ (by rw [sgn_abs]; omega))
    (fun _ => by have := g139 (gN m) (sgn n1 (val w1)) (sgn n2 (val w2)) (by rw [sgn_abs]; omega) (by rw [sgn_abs]; omega); rwa [sgn_abs, sgn_abs] at this) (i138 (gN m) _)
  exact this
theorem rv157 (n1 : Bool) (w1 : List Nat) (n2 : Bool) (w2 : List Nat) (hw1 : Wd w1) (hw2 : Wd w2) (hl1 : w1.length ≤ 8) (hl2 : w2.length ≤ 8) : VP Tryz.prog (gN m) 157 [RR n1 w1 n2 w2] (.bool (rrB n1 w1 n2 w2)) := by
  have a1 := wl hw1 hl1
  have a2 := wl hw2 hl2
  have := rvalid_ok h157 n1 w1 n2 w2 hw1 hw2 (g := (Nat.gcd (val w1) (val w2) : Nat)) (iv178 (gN m) n1 w1 hw1 (by omega)) (iv178 (gN m) n2 w2 hw2 (by omega)) (g179 (gN m) _ (by rw [sgn_abs]; omega))
    (fun _ => by have := g181 (gN m) (sgn n1 (val w1)) (sgn n2 (val w2)) (by rw [sgn_abs]; omega) (by rw [sgn_abs]; omega); rwa [sgn_abs, sgn_abs] at this) (on180 (gN m) _)
  exact this
theorem w1 : wlen 1 ≤ 1 := wlen_one
theorem dec104 (n1 : Bool) (w1 : List Nat) (n2 : Bool) (w2 : List Nat) (hw1 : Wd w1) (hw2 : Wd w2) (hl1 : w1.length ≤ 8) (hl2 : w2.length ≤ 8) : ∃ s, VP Tryz.prog (gN m) 104 [RR n1 w1 n2 w2] (.tup [.str s, .bool (decB n1 w1 n2 w2)]) := by
  obtain ⟨s, e⟩ := decR_shape 40 n1 w1 n2 w2 (fun _ _ => rfl)
  refine ⟨s, ?_⟩
  rw [← e]
  refine decimal_ok has_formula_decimal n1 w1 n2 w2 hw1 hw2 hl1 hl2 (rv123 m n1 w1 n2 w2 hw1 hw2 hl1 hl2) (fun a b ha => rs124 (gN m) a b (by omega)) (fun a b hb hg ha hwb hv => ?_)
  exact decimal_go has_formula_decimal a b hb hg ha hwb hv (rs124 (gN m) _ _ (by rw [Int.natAbs_natCast]; omega)) (rfi125 (gN m) 10 (by decide) (by decide)) (fi126 (gN m) 1 (by decide) (by decide))
    (fun y hy => c127 (gN m) _ _ (by rw [Int.natAbs_natCast]; omega) (by show wlen 1 ≤ _; have := wlen_one; omega)) (fun a b hb _ ha hwb => m128 (gN m) a b hb ha hwb)
    (fun n hn => Tryz.format_vp (gN m) rfl (t145 (gN m)) has_integer_trim has_slices_Clone_Luint32_uint32 n (by omega)) (fun z hz => Tryz.repeat_vp (gN m) z hz)
theorem dec134 (n1 : Bool) (w1 : List Nat) (n2 : Bool) (w2 : List Nat) (hw1 : Wd w1) (hw2 : Wd w2) (hl1 : w1.length ≤ 8) (hl2 : w2.length ≤ 8) : ∃ s, VP Tryz.prog (gN m) 134 [RR n1 w1 n2 w2] (.tup [.str s, .bool (decB n1 w1 n2 w2)]) := by
  obtain ⟨s, e⟩ := decR_shape 41 n1 w1 n2 w2 decOk_lim
  refine ⟨s, ?_⟩
  rw [← e]
  refine rdecimal_ok has_setsquareref22_Decimal n1 w1 n2 w2 hw1 hw2 hl1 hl2 (rv157 m n1 w1 n2 w2 hw1 hw2 hl1 hl2) (fun a b ha => rs158 (gN m) a b (by omega)) (fun a b hb hg ha hwb hv => ?_)
  exact rdecimal_go has_setsquareref22_Decimal a b hb hg ha hwb hv (rs158 (gN m) _ _ (by rw [Int.natAbs_natCast]; omega)) (rfi159 (gN m) 10 (by decide) (by decide)) (fi160 (gN m) 1 (by decide) (by decide))
    (fun y hy => sa161 (gN m) _ _ (by rw [Int.natAbs_natCast]; omega) (by show wlen 1 ≤ _; have := wlen_one; omega)) (fun a b hb hb1 hg ha hwb => m163 (gN m) a b hb hb1 hg ha hwb)
    (fun n hn => f162 (gN m) n (by omega))
theorem formed78 (e : EX) (ho : e.Ok) (hl : e.light = true) (hn : e.nodes ≤ 1000) : VP Tryz.prog (gN m) 78 [e.av] (.bool e.formed) :=
  formed_ok has_formula_formed rfl has_formula_formed_1 has_slices_ContainsFunc_Lapi_Expr_api_Expr has_slices_IndexFunc_Lapi_Expr_api_Expr (dec104 m) (name50 m) (fun n1 w1 n2 w2 => none_ok has_formula_none n1 w1 n2 w2) e ho hl hn
theorem fvalid56 (e : EX) (ho : e.Ok) (hs : smallE e = true) : VP Tryz.prog (gN m) 56 [e.av] (.int .i64 (if e.formed = true then (if 40 < e.depth then 3 else 0) else 1)) := by
  unfold smallE at hs
  simp only [Bool.and_eq_true, decide_eq_true_eq] at hs
  exact fvalid_ok has_formula_Valid e (formed78 m e ho hs.2 (by omega)) (fdepth_ok has_formula_Depth e (by omega))
theorem formed93 (e : EX) (ho : e.Ok) (hl : e.light = true) : VP Tryz.prog (gN m) 93 [e.av] (.bool e.formed) :=
  rformed_ok has_setsquareref22_Formed (fun op n1 w1 n2 w2 nm args ho hl => by
    have hh := EX.light_args hl
    have ho' := ho
    rw [EX.Ok] at ho'
    exact shape_ok has_setsquareref22_shape op n1 w1 n2 w2 nm args (dec134 m n1 w1 n2 w2 ho'.2.2.1 ho'.2.2.2.1 hh.2.1 hh.2.2.1) (name60 m nm)) e ho hl
theorem rvalid61 (e : EX) (ho : e.Ok) (hs : smallE e = true) : VP Tryz.prog (gN m) 61 [e.av] (.int .i64 (if e.formed = true then (if 40 < e.depth then 3 else 0) else 1)) := by
  unfold smallE at hs
  simp only [Bool.and_eq_true, decide_eq_true_eq] at hs
  exact rvalid22_ok has_setsquareref22_Valid e (formed93 m e ho hs.2) (rdepth_ok has_setsquareref22_Depth e (by omega))
theorem small28 (e : EX) (ho : e.Ok) : VP Tryz.prog (gN m) 28 [e.av] (.bool (smallE e)) :=
  small22_ok has_setsquareref22_Small e (nodes_ok has_setsquareref22_Nodes e ho 120 (by decide)) (light_ok has_setsquareref22_light e ho)
theorem cut30 (s : List UInt8) (hs : s.length ≤ 300) : VP Tryz.prog (gN m) 30 [.str s, .str [47]] (.tup [.str (Lib.cut s [47]).1, .str (Lib.cut s [47]).2.1, .bool (Lib.cut s [47]).2.2]) := Tryz.cut_vp (gN m) (m := m) rfl s (by omega)
theorem input53 (s : List UInt8) (hs : s.length ≤ 300) : VP Tryz.prog (gN m) 53 [.str s] (.bool (featOf s).isSome) := validInput_ok has_history_validInput s (by omega) (cut30 m s hs) (name50 m)
theorem feature34 (s : List UInt8) (hs : s.length ≤ 300) : VP Tryz.prog (gN m) 34 [.str s] (.str ((featOf s).getD [])) := feature_ok has_setsquareref53_feature s (by omega) (name60 m)
theorem fx_small {X : FX} (h : X.small = true) : X.inputs.length ≤ 60 ∧ X.vals.length ≤ 12 ∧ (∀ s ∈ X.inputs, s.length ≤ 300) ∧ (∀ e ∈ X.vals, smallE e = true) := by
  unfold FX.small at h
  simp only [Bool.and_eq_true, List.all_eq_true, decide_eq_true_eq] at h
  exact ⟨h.1.1.1.1, h.1.1.1.2, h.1.2, h.2⟩
theorem small10 (X : FX) (hX : X.Ok) : VP Tryz.prog (gN m) 10 [X.av] (.bool X.small) := rsmall53_ok has_setsquareref53_Small X hX (fun e he => small28 m e (hX.vals e he))
theorem valid29 (X : FX) (hX : X.Ok) (hs : X.small = true) : VP Tryz.prog (gN m) 29 [X.av] (.bool X.valid) := by
  obtain ⟨q1, q2, h2, h3⟩ := fx_small hs
  exact hvalid_ok has_history_valid (name50 m) has_slices_ContainsFunc_Lstring_string has_slices_IndexFunc_Lstring_string has_slices_ContainsFunc_Lapi_Expr_api_Expr has_slices_IndexFunc_Lapi_Expr_api_Expr X hX (by omega) (by omega)
    (fun s hm => valid1_ok has_history_valid_1 s (input53 m s (h2 s hm))) (fun e he => valid2_ok has_history_valid_2 e (fvalid56 m e (hX.vals e he) (h3 e he)))
theorem valid33 (X : FX) (hX : X.Ok) (hs : X.small = true) : VP Tryz.prog (gN m) 33 [X.av] (.bool X.valid) := by
  obtain ⟨q1, q2, h2, h3⟩ := fx_small hs
  exact rvalid53_ok has_setsquareref53_Valid X hX (name60 m _) (fun e he => rvalid61 m e (hX.vals e he) (h3 e he)) (fun s hm => feature34 m s (h2 s hm))
theorem featOf_cut {s : List UInt8} (h : (featOf s).isSome = true) : (featOf s).getD [] = (Lib.cut s [47]).1 := by
  rw [cut_slash]
  unfold featOf at h ⊢
  cases hs : slash s with
  | none => rw [hs] at h; cases h
  | some k =>
    rw [hs] at h
    simp only [] at h ⊢
    split
    · rfl
    · rename_i hh; rw [if_neg hh] at h; cases h
theorem fx_names {X : FX} (h : X.valid = true) : (X.inputs.map fun s => (Lib.cut s [47]).1) = X.inputs.map fun s => (featOf s).getD [] := by
  refine List.map_congr_left fun s hs => ?_
  unfold FX.valid at h
  simp only [Bool.and_eq_true, List.all_eq_true] at h
  exact (featOf_cut (h.1.2 s hs)).symm
def FX.needs (X : FX) : List (List UInt8) := if X.valid = true then refN (X.inputs.map fun s => (featOf s).getD []) else []
theorem sort_nil : VP Tryz.prog (gN m) 31 [.nils] (.tup []) := by
  refine VP.of_call (r := { val := .tup [] }) (CallRel.of_below Tryz.func31 (by kernel_rfl) (by kernel_rfl) ?_) (fun _ _ _ _ _ => by simp [Rep, RepL])
  intro own E w σ vs _ hi hr
  simp only [RepL, Rep] at hr
  obtain ⟨v, _, rfl, rfl, rfl⟩ := hr
  refine (Tryz.slices_Sort_string_none none 0 w).mono ?_
  rintro e W' ⟨rfl, rfl⟩
  exact ⟨_, rfl, Below.refl _ _, fun E w => by simp [Rep, RepL]⟩
theorem compact_nil : VP Tryz.prog (gN m) 32 [.nils] .nils := by
  refine VP.of_call (r := { val := .nils }) (CallRel.of_below Tryz.func32 (by kernel_rfl) (by kernel_rfl) ?_) (fun _ _ _ _ _ => by simp [Rep])
  intro own E w σ vs _ hi hr
  simp only [RepL, Rep] at hr
  obtain ⟨v, _, rfl, rfl, rfl⟩ := hr
  refine (Tryz.slices_Compact_string_empty none 0 w).mono ?_
  rintro e W' ⟨rfl, rfl⟩
  exact ⟨_, rfl, Below.refl _ _, fun E w => by simp [Rep]⟩
theorem needs11 (X : FX) (hX : X.Ok) (hs : X.small = true) : VP Tryz.prog (gN m) 11 [X.av] (strs (FX.needs X)) := by
  obtain ⟨h1, _, h2, h3⟩ := fx_small hs
  have := needs_ok has_history_Needs X hX (fun _ => by omega) (valid29 m X hX hs) (fun s hm => cut30 m s (h2 s hm)) (sort_nil m) (compact_nil m) sortS Lib.compact sortS_len compact_len (by simp [sortS]; rfl)
    (fun l id p hl hid => Tryz.sort_rel (gN m) l hl hid) (fun l id p hl hid => Tryz.compact_rel (gN m) l hl hid)
  have e : (if X.valid = true then Lib.compact (sortS (X.inputs.map fun s => (Lib.cut s [47]).1)) else []) = FX.needs X := by
    unfold FX.needs
    split
    · rename_i hv
      rw [fx_names hv]; exact needs_law _
    · rfl
  rwa [e] at this
theorem needs12 (X : FX) (hX : X.Ok) (hs : X.small = true) : VP Tryz.prog (gN m) 12 [X.av] (strs (FX.needs X)) := by
  obtain ⟨h1, _, h2, h3⟩ := fx_small hs
  exact rneeds_ok has_setsquareref53_Needs X hX (fun _ => by omega) (valid33 m X hX hs) (fun s hm => feature34 m s (h2 s hm)) (fun l s hl => has_ok has_setsquareref53_has l hl s)
theorem needs_len {X : FX} (hs : X.small = true) : (FX.needs X).length ≤ 1000 := by
  obtain ⟨h1, _, _, _⟩ := fx_small hs
  unfold FX.needs
  split
  · have := refN_len (X.inputs.map fun s => (featOf s).getD []) X.inputs.length
    rw [List.take_of_length_le (by rw [List.length_map]; exact Nat.le_refl _)] at this
    omega
  · simp
theorem law3 (haw : VP Tryz.prog (fun _ => none) 9 [] (.bool true)) (X : FX) (hX : X.Ok) : VP Tryz.prog (gN m) 3 [X.av] (.bool true) := by
  by_cases hs : X.small = true
  · exact historyNeeds_ok has_setsquarelaw53_HistoryNeeds X hX (VP.up haw) (small10 m X hX) (FX.needs X) (by have := needs_len hs; omega) (fun h => needs11 m X hX h) (fun h => needs12 m X hX h)
  · exact historyNeeds_ok has_setsquarelaw53_HistoryNeeds X hX (VP.up haw) (small10 m X hX) [] (by simp) (fun h => absurd h hs) (fun h => absurd h hs)
end
end Go.Proofs.YtcomlgfjnjpebaaGreatDoor
end

section
namespace Go.VL
section
variable {H : Type} {enc : TypeId × Value → H} {P : Program} {w : World} {spare : Nat → Bool} {held : Bool}
def openE (w : World) : Env := ⟨fun _ => none, fun b => b < w.heap.size⟩
theorem exists_map_of {α β : Type} {f : α → β} {Q : α → Prop} : ∀ {es : List β}, (∀ c ∈ es, ∃ x, c = f x ∧ Q x) → ∃ l : List α, es = l.map f ∧ ∀ x ∈ l, Q x
  | [], _ => ⟨[], rfl, by simp⟩
  | c :: es, h => by
    obtain ⟨x, hx, hq⟩ := h c (by simp)
    obtain ⟨l, hl, hql⟩ := exists_map_of (es := es) fun y hy => h y (by simp [hy])
    exact ⟨x :: l, by rw [hx, hl]; rfl, by intro y hy; rcases List.mem_cons.1 hy with rfl | hy; exact hq; exact hql y hy⟩
theorem open_sl {t e : TypeId} {fuel k : Nat} {cs : List Value} {x : DataW H × List MemPlace} (ht : P.underlying t = some (.slice e)) (hk : P.cellsOf e = k) (hk0 : 0 < k) (h : DataW.trod enc P w 0 spare held fuel t cs = some x) (Good : AV → Prop)
    (F : ∀ n cs' y, fuel = n + 1 → DataW.trod enc P w 0 spare held n e cs' = some y → ∃ c : AV, Good c ∧ c.size = k ∧ RepL (openE w) w c.cells cs') :
    ∃ (es : List AV) (v : Value), cs = [v] ∧ Rep (openE w) w (.sl k es) v ∧ (∀ c ∈ es, Good c) ∧ es.length ≤ maxLen := by
  rcases DataW.trod_slice ht h with ⟨rfl, rfl⟩ | ⟨a, len, cap, elems, rest, n, hfu, rfl, rfl, _, hl, hm, hlen, hel, _, _⟩
  · exact ⟨[], _, rfl, by simp only [Rep]; exact ⟨none, 0, rfl, Nat.le_refl _, Nat.zero_le _, by simp, .inl trivial⟩, by simp, Nat.zero_le _⟩
  have hC : ∀ i, i < len → ∃ c : AV, Good c ∧ c.size = k ∧ ∃ cs', w.cells? 0 (a.add (i * k)) k = some cs' ∧ RepL (openE w) w c.cells cs' := by
    intro i hi
    have h1 := hel i hi
    rw [List.getElem?_eq_getElem (by omega), hk] at h1
    obtain ⟨cs', h2, h3⟩ := Option.bind_eq_some_iff.1 h1
    obtain ⟨c, hg, hs, hr⟩ := F n cs' _ hfu h3
    exact ⟨c, hg, hs, cs', h2, hr⟩
  have hC' : ∀ i : _root_.Fin len, ∃ c : AV, Good c ∧ c.size = k ∧ ∃ cs', w.cells? 0 (a.add (i.1 * k)) k = some cs' ∧ RepL (openE w) w c.cells cs' := fun i => hC i.1 i.2
  let C : _root_.Fin len → AV := fun i => (hC' i).choose
  have hCs : ∀ i, Good (C i) ∧ (C i).size = k ∧ ∃ cs', w.cells? 0 (a.add (i.1 * k)) k = some cs' ∧ RepL (openE w) w (C i).cells cs' := fun i => (hC' i).choose_spec
  have hsz : ∀ c ∈ List.ofFn C, c.size = k := by intro c hc; obtain ⟨i, rfl⟩ := List.mem_ofFn.1 hc; exact (hCs i).2.1
  refine ⟨List.ofFn C, _, rfl, ?_, by intro c hc; obtain ⟨i, rfl⟩ := List.mem_ofFn.1 hc; exact (hCs i).1, by rw [List.length_ofFn]; omega⟩
  simp only [Rep]
  refine ⟨some a, cap, by rw [List.length_ofFn], by rw [List.length_ofFn]; exact hl, hm, hsz, ?_⟩
  by_cases h0 : len = 0
  · left; exact List.length_eq_zero_iff.1 (by rw [List.length_ofFn]; exact h0)
  right
  have hcell : ∀ (i : _root_.Fin len) (r : Nat) (c : AV), (C i).cells[r]? = some c → ∃ v, w.cell? ((a.add (i.1 * k)).add r) = some v ∧ Rep (openE w) w c v := by
    intro i r c hc
    obtain ⟨_, hs, cs', h1, h2⟩ := hCs i
    obtain ⟨hl2, hp⟩ := repL_iff.1 h2
    obtain ⟨v, hv, hrv⟩ := hp r c hc
    refine ⟨v, ?_, hrv⟩
    have hrk : r < k := by have := (List.getElem?_eq_some_iff.1 hc).1; rw [← hs]; exact this
    rw [(World.cells?_some h1).2.2 r hrk, hv]
  obtain ⟨b, o, spot⟩ := a
  have hz : 0 < len := Nat.pos_of_ne_zero h0
  obtain ⟨c0, hc0⟩ : ∃ c, (C ⟨0, hz⟩).cells[0]? = some c := ⟨_, List.getElem?_eq_getElem (by have := (hCs ⟨0, hz⟩).2.1; unfold AV.size at this; omega)⟩
  obtain ⟨v0, hv0, _⟩ := hcell ⟨0, hz⟩ 0 c0 hc0
  have hadd0 : ((⟨b, o, spot⟩ : Addr).add (0 * k)).add 0 = ⟨b, o, spot⟩ := by simp [Addr.add]
  have hv0' : w.cell? ⟨b, o, spot⟩ = some v0 := by rw [← hadd0]; exact hv0
  have hsp : spot = none := World.cell?_spot hv0'
  subst hsp
  refine ⟨b, o, rfl, World.block_lt_of_cell? _ _ hv0', repRow_iff.2 ?_⟩
  intro j c hj
  have hjl : j < (flat (List.ofFn C)).length := (List.getElem?_eq_some_iff.1 hj).1
  rw [flat_length hsz, List.length_ofFn] at hjl
  have hjk : j / k < len := (Nat.div_lt_iff_lt_mul hk0).2 hjl
  have hjr : j % k < k := Nat.mod_lt _ hk0
  have hget : (List.ofFn C)[j / k]? = some (C ⟨j / k, hjk⟩) := by rw [List.getElem?_ofFn, dif_pos hjk]
  have hfl := flat_get hsz hget hjr
  have hjj : j / k * k + j % k = j := by rw [Nat.mul_comm]; exact Nat.div_add_mod j k
  rw [hjj, hj] at hfl
  obtain ⟨v, hv, hr⟩ := hcell ⟨j / k, hjk⟩ (j % k) c hfl.symm
  refine ⟨v, ?_, hr⟩
  have hadd : ((⟨b, o, none⟩ : Addr).add (j / k * k)).add (j % k) = ⟨b, o + j, none⟩ := by
    have h1 : ∀ (o n : Nat), (⟨b, o, none⟩ : Addr).add n = ⟨b, o + n, none⟩ := fun o n => by unfold Addr.add; split <;> simp_all
    rw [h1, h1, Nat.add_assoc, hjj]
  rw [← hadd]; exact hv
end
end Go.VL
end

section
set_option maxRecDepth 100000
namespace Go.Proofs
open Go.VL
theorem maxLen_le : maxLen ≤ 9223372036854775807 := Nat.le_refl _
section
variable {H : Type} {enc : TypeId × Value → H} {w : World} {spare : Nat → Bool} {held : Bool} {fuel : Nat} {cs : List Value} {x : DataW H × List MemPlace}
theorem ox_str (h : DataW.trod enc Tryz.prog w 0 spare held fuel 9 cs = some x) : ∃ s : List UInt8, RepL (openE w) w [.str s] cs ∧ s.length ≤ 9223372036854775807 := by
  obtain ⟨s, rfl, _, hs⟩ := DataW.trod_string Tryz.underlying9 h
  refine ⟨s.data.toList, ?_, ?_⟩
  · simp only [RepL, Rep]
    exact ⟨_, [], rfl, rfl, rfl⟩
  · have e : s.data.toList.length = s.size := Array.length_toList
    rw [e]; exact Nat.le_trans hs maxLen_le
theorem ox_int (h : DataW.trod enc Tryz.prog w 0 spare held fuel 3 cs = some x) : ∃ n : Int, RepL (openE w) w [.int .i64 n] cs ∧ -9223372036854775808 ≤ n ∧ n ≤ 9223372036854775807 := by
  obtain ⟨n, rfl, _, hw⟩ := DataW.trod_int Tryz.underlying3 h
  exact ⟨n, by simp [RepL, Rep], (bounds_i64 hw).1, (bounds_i64 hw).2⟩
theorem ox_bool (h : DataW.trod enc Tryz.prog w 0 spare held fuel 4 cs = some x) : ∃ b : Bool, RepL (openE w) w [.bool b] cs := by
  obtain ⟨b, rfl, _⟩ := DataW.trod_bool Tryz.underlying4 h
  exact ⟨b, by simp [RepL, Rep]⟩
theorem ox_words (h : DataW.trod enc Tryz.prog w 0 spare held fuel 57 cs = some x) : ∃ ws : List Nat, RepL (openE w) w [.sl 1 (us ws)] cs ∧ Wd ws ∧ ws.length ≤ 9223372036854775807 := by
  obtain ⟨es, v, rfl, hr, hg, hl⟩ := open_sl (k := 1) Tryz.underlying57 (by kernel_rfl) (by decide) h (fun c => ∃ n : Nat, c = .int .u32 (n : Int) ∧ n < B32) (fun n cs' y _ hy => by
    obtain ⟨n, rfl, _, hw⟩ := DataW.trod_int Tryz.underlying116 hy
    have hb := bounds_u32 hw
    obtain ⟨m, rfl⟩ := Int.eq_ofNat_of_zero_le hb.1
    exact ⟨.int .u32 (m : Int), ⟨m, rfl, by unfold B32; omega⟩, rfl, by simp [AV.cells, RepL, Rep]⟩)
  obtain ⟨ws, rfl, hw⟩ := exists_map_of hg
  refine ⟨ws, by simp only [RepL]; exact ⟨v, [], rfl, hr, rfl⟩, hw, ?_⟩
  rw [List.length_map] at hl
  exact Nat.le_trans hl maxLen_le
theorem ox_strs (h : DataW.trod enc Tryz.prog w 0 spare held fuel 22 cs = some x) : ∃ l : List (List UInt8), RepL (openE w) w [strs l] cs ∧ (∀ s ∈ l, s.length ≤ 9223372036854775807) ∧ l.length ≤ 9223372036854775807 := by
  obtain ⟨es, v, rfl, hr, hg, hl⟩ := open_sl (k := 1) Tryz.underlying22 (by kernel_rfl) (by decide) h (fun c => ∃ s : List UInt8, c = .str s ∧ s.length ≤ 9223372036854775807) (fun n cs' y _ hy => by
    obtain ⟨s, hs, hl⟩ := ox_str hy
    exact ⟨.str s, ⟨s, rfl, hl⟩, rfl, hs⟩)
  obtain ⟨l, rfl, hw⟩ := exists_map_of hg
  refine ⟨l, by simp only [RepL]; exact ⟨v, [], rfl, hr, rfl⟩, hw, ?_⟩
  rw [List.length_map] at hl
  exact Nat.le_trans hl maxLen_le
theorem ox_Int (h : DataW.trod enc Tryz.prog w 0 spare held fuel 59 cs = some x) : ∃ (b : Bool) (ws : List Nat), RepL (openE w) w [.bool b, .sl 1 (us ws)] cs ∧ Wd ws ∧ ws.length ≤ 9223372036854775807 := by
  obtain ⟨xs, n, _, _, hl, hxl, hf⟩ := DataW.trod_struct Tryz.underlying59 h
  have hC : Tryz.prog.cellsOf 59 = 2 := by kernel_rfl
  have h4 : Tryz.prog.cellsOf 4 = 1 := by kernel_rfl
  have h57 : Tryz.prog.cellsOf 57 = 1 := by kernel_rfl
  rw [hC] at hl
  have hxs : xs.length = 2 := hxl
  match cs, hl with
  | [c0, c1], _ =>
    have f0 : DataW.trod enc Tryz.prog w 0 spare held n 4 (List.take (Tryz.prog.cellsOf 4) (List.drop 0 [c0, c1])) = xs[0]? := hf 0 _ rfl
    have f1 : DataW.trod enc Tryz.prog w 0 spare held n 57 (List.take (Tryz.prog.cellsOf 57) (List.drop 1 [c0, c1])) = xs[1]? := hf 1 _ rfl
    rw [List.getElem?_eq_getElem (by omega)] at f0 f1
    simp only [h4, h57, List.drop_zero, List.drop_succ_cons, List.take_succ_cons, List.take_zero] at f0 f1
    obtain ⟨b, hb⟩ := ox_bool f0
    obtain ⟨ws, hw, hwd, hwl⟩ := ox_words f1
    exact ⟨b, ws, RepL.append (xs := [.bool b]) (us := [c0]) hb hw, hwd, hwl⟩
theorem ox_Rat (h : DataW.trod enc Tryz.prog w 0 spare held fuel 61 cs = some x) : ∃ (n1 : Bool) (w1 : List Nat) (n2 : Bool) (w2 : List Nat), RepL (openE w) w [.bool n1, .sl 1 (us w1), .bool n2, .sl 1 (us w2)] cs ∧ Wd w1 ∧ Wd w2 ∧ w1.length ≤ 9223372036854775807 ∧ w2.length ≤ 9223372036854775807 := by
  obtain ⟨xs, n, _, _, hl, hxl, hf⟩ := DataW.trod_struct Tryz.underlying61 h
  have hC : Tryz.prog.cellsOf 61 = 4 := by kernel_rfl
  have h59 : Tryz.prog.cellsOf 59 = 2 := by kernel_rfl
  rw [hC] at hl
  have hxs : xs.length = 2 := hxl
  match cs, hl with
  | [c0, c1, c2, c3], _ =>
    have f0 : DataW.trod enc Tryz.prog w 0 spare held n 59 (List.take (Tryz.prog.cellsOf 59) (List.drop 0 [c0, c1, c2, c3])) = xs[0]? := hf 0 _ rfl
    have f1 : DataW.trod enc Tryz.prog w 0 spare held n 59 (List.take (Tryz.prog.cellsOf 59) (List.drop 2 [c0, c1, c2, c3])) = xs[1]? := hf 1 _ rfl
    rw [List.getElem?_eq_getElem (by omega)] at f0 f1
    simp only [h59, List.drop_zero, List.drop_succ_cons, List.take_succ_cons, List.take_zero] at f0 f1
    obtain ⟨n1, w1, h1, hd1, hl1⟩ := ox_Int f0
    obtain ⟨n2, w2, h2, hd2, hl2⟩ := ox_Int f1
    exact ⟨n1, w1, n2, w2, RepL.append (xs := [.bool n1, .sl 1 (us w1)]) (us := [c0, c1]) h1 h2, hd1, hd2, hl1, hl2⟩
theorem ox_expr : ∀ (fuel : Nat) (cs : List Value) (x : DataW H × List MemPlace), DataW.trod enc Tryz.prog w 0 spare held fuel 63 cs = some x → ∃ e : EX, e.Ok ∧ RepL (openE w) w e.av.cells cs := by
  intro fuel
  induction fuel using Nat.strongRecOn with
  | ind fuel ih =>
    intro cs x h
    obtain ⟨xs, n, hfu, _, hl, hxl, hf⟩ := DataW.trod_struct Tryz.underlying63 h
    have hC : Tryz.prog.cellsOf 63 = 7 := by kernel_rfl
    have h3 : Tryz.prog.cellsOf 3 = 1 := by kernel_rfl
    have h61 : Tryz.prog.cellsOf 61 = 4 := by kernel_rfl
    have h9 : Tryz.prog.cellsOf 9 = 1 := by kernel_rfl
    have h23 : Tryz.prog.cellsOf 23 = 1 := by kernel_rfl
    rw [hC] at hl
    have hxs : xs.length = 4 := hxl
    match cs, hl with
    | [c0, c1, c2, c3, c4, c5, c6], _ =>
      have f0 : DataW.trod enc Tryz.prog w 0 spare held n 3 (List.take (Tryz.prog.cellsOf 3) (List.drop 0 [c0, c1, c2, c3, c4, c5, c6])) = xs[0]? := hf 0 _ rfl
      have f1 : DataW.trod enc Tryz.prog w 0 spare held n 61 (List.take (Tryz.prog.cellsOf 61) (List.drop 1 [c0, c1, c2, c3, c4, c5, c6])) = xs[1]? := hf 1 _ rfl
      have f2 : DataW.trod enc Tryz.prog w 0 spare held n 9 (List.take (Tryz.prog.cellsOf 9) (List.drop 5 [c0, c1, c2, c3, c4, c5, c6])) = xs[2]? := hf 2 _ rfl
      have f3 : DataW.trod enc Tryz.prog w 0 spare held n 23 (List.take (Tryz.prog.cellsOf 23) (List.drop 6 [c0, c1, c2, c3, c4, c5, c6])) = xs[3]? := hf 3 _ rfl
      rw [List.getElem?_eq_getElem (by omega)] at f0 f1 f2 f3
      simp only [h3, h61, h9, h23, List.drop_zero, List.drop_succ_cons, List.take_succ_cons, List.take_zero] at f0 f1 f2 f3
      obtain ⟨op, ho, hb1, hb2⟩ := ox_int f0
      obtain ⟨n1, w1, n2, w2, hr, hd1, hd2, hl1, hl2⟩ := ox_Rat f1
      obtain ⟨nm, hn, hnl⟩ := ox_str f2
      obtain ⟨es, v, hv, hrs, hg, hel⟩ := open_sl (k := 7) Tryz.underlying23 hC (by decide) f3 (fun c => ∃ e : EX, c = e.av ∧ e.Ok) (fun m cs' y hm hy => by
        obtain ⟨e, he, her⟩ := ih m (by omega) cs' y hy
        exact ⟨e.av, ⟨e, rfl, he⟩, EX.size e, her⟩)
      obtain ⟨args, rfl, hok⟩ := exists_map_of hg
      rw [List.length_map] at hel
      have hal := Nat.le_trans hel maxLen_le
      refine ⟨.mk op n1 w1 n2 w2 nm args, ?_, ?_⟩
      · rw [EX.Ok]
        exact ⟨hb1, by omega, hd1, hd2, hl1, hl2, hnl, hal, EX.okL_iff.2 hok⟩
      · rw [EX.av, EX.avL_map]
        have hargs : RepL (openE w) w [.sl 7 (args.map EX.av)] [c6] := by
          rw [hv]; simp only [RepL]; exact ⟨v, [], rfl, hrs, rfl⟩
        exact RepL.append (xs := [.int .i64 op]) (us := [c0]) ho (RepL.append (xs := [.bool n1, .sl 1 (us w1), .bool n2, .sl 1 (us w2)]) (us := [c1, c2, c3, c4]) hr (RepL.append (xs := [.str nm]) (us := [c5]) hn hargs))
theorem ox_feature (ht : Tryz.prog.underlying 25 = Tryz.prog.underlying 25) (h : DataW.trod enc Tryz.prog w 0 spare held fuel 25 cs = some x) : ∃ X : FX, X.Ok ∧ RepL (openE w) w X.av.cells cs := by
  obtain ⟨xs, n, hfu, _, hl, hxl, hf⟩ := DataW.trod_struct Tryz.underlying25 h
  have hC : Tryz.prog.cellsOf 25 = 5 := by kernel_rfl
  have h9 : Tryz.prog.cellsOf 9 = 1 := by kernel_rfl
  have h3 : Tryz.prog.cellsOf 3 = 1 := by kernel_rfl
  have h22 : Tryz.prog.cellsOf 22 = 1 := by kernel_rfl
  have h23 : Tryz.prog.cellsOf 23 = 1 := by kernel_rfl
  have h4 : Tryz.prog.cellsOf 4 = 1 := by kernel_rfl
  have h63 : Tryz.prog.cellsOf 63 = 7 := by kernel_rfl
  rw [hC] at hl
  have hxs : xs.length = 5 := hxl
  match cs, hl with
  | [c0, c1, c2, c3, c4], _ =>
    have f0 : DataW.trod enc Tryz.prog w 0 spare held n 9 (List.take (Tryz.prog.cellsOf 9) (List.drop 0 [c0, c1, c2, c3, c4])) = xs[0]? := hf 0 _ rfl
    have f1 : DataW.trod enc Tryz.prog w 0 spare held n 3 (List.take (Tryz.prog.cellsOf 3) (List.drop 1 [c0, c1, c2, c3, c4])) = xs[1]? := hf 1 _ rfl
    have f2 : DataW.trod enc Tryz.prog w 0 spare held n 22 (List.take (Tryz.prog.cellsOf 22) (List.drop 2 [c0, c1, c2, c3, c4])) = xs[2]? := hf 2 _ rfl
    have f3 : DataW.trod enc Tryz.prog w 0 spare held n 23 (List.take (Tryz.prog.cellsOf 23) (List.drop 3 [c0, c1, c2, c3, c4])) = xs[3]? := hf 3 _ rfl
    have f4 : DataW.trod enc Tryz.prog w 0 spare held n 4 (List.take (Tryz.prog.cellsOf 4) (List.drop 4 [c0, c1, c2, c3, c4])) = xs[4]? := hf 4 _ rfl
    rw [List.getElem?_eq_getElem (by omega)] at f0 f1 f2 f3 f4
    simp only [h3, h9, h22, h23, h4, List.drop_zero, List.drop_succ_cons, List.take_succ_cons, List.take_zero] at f0 f1 f2 f3 f4
    obtain ⟨nm, hn, hnl⟩ := ox_str f0
    obtain ⟨kd, hk, _, _⟩ := ox_int f1
    obtain ⟨l, hi, hil, hll⟩ := ox_strs f2
    obtain ⟨es, v, hv, hrs, hg, hel⟩ := open_sl (k := 7) Tryz.underlying23 h63 (by decide) f3 (fun c => ∃ e : EX, c = e.av ∧ e.Ok) (fun m cs' y hm hy => by
      obtain ⟨e, he, her⟩ := ox_expr m cs' y hy
      exact ⟨e.av, ⟨e, rfl, he⟩, EX.size e, her⟩)
    obtain ⟨vals, rfl, hok⟩ := exists_map_of hg
    rw [List.length_map] at hel
    obtain ⟨sp, hs⟩ := ox_bool f4
    refine ⟨⟨nm, kd, l, vals, sp⟩, ⟨hnl, hll, hil, Nat.le_trans hel maxLen_le, hok⟩, ?_⟩
    have hvals : RepL (openE w) w [.sl 7 (EX.avL vals)] [c3] := by
      rw [hv, EX.avL_map]; simp only [RepL]; exact ⟨v, [], rfl, hrs, rfl⟩
    show RepL (openE w) w [.str nm, .int .i64 kd, strs l, .sl 7 (EX.avL vals), .bool sp] _
    exact RepL.append (xs := [.str nm]) (us := [c0]) hn (RepL.append (xs := [.int .i64 kd]) (us := [c1]) hk (RepL.append (xs := [strs l]) (us := [c2]) hi (RepL.append (xs := [.sl 7 (EX.avL vals)]) (us := [c3]) hvals hs)))
end
end Go.Proofs
end

section
namespace Go.VL
open Go.ChangeShapes Go.WideShapes Go.ChangeAt Go.RowKit
section
variable {H : Type} {enc : TypeId × Value → H} {P : Program}
theorem trodAll_stays (hl : laidOutB P = true) {W W' : World} {sp : Nat → Bool} (hB : Below W.heap.size W W') : ∀ {ts : List TypeId} {vs : List Value} {ds : List (DataW H)} {ps : List MemPlace},
    (∀ t ∈ ts, P.readableRec t = true ∧ t < P.types.size) → DataW.TrodAll enc P W 0 (fun _ => true) true ts vs ds ps → (∀ p ∈ ps, p.block < W.heap.size) → (∀ p ∈ ps, sp p.block = true) →
    DataW.TrodAll enc P W' 0 sp true ts vs ds ps
  | [], [], [], ps, _, h, _, _ => by simpa [DataW.TrodAll] using h
  | t :: ts, v :: vs, d :: ds, ps, hr, h, hlt, hsp => by
    simp only [DataW.TrodAll] at h ⊢
    obtain ⟨p, q, h1, h2, rfl⟩ := h
    refine ⟨p, q, ?_, trodAll_stays hl hB (fun x hx => hr x (by simp [hx])) h2 (fun x hx => hlt x (by simp [hx])) (fun x hx => hsp x (by simp [hx])), rfl⟩
    exact WideElems.Trod_stays hl (hr t (by simp)).1 (hr t (by simp)).2 h1 (fun x hx => hB.same (hlt x (by simp [hx]))) (fun x hx => hsp x (by simp [hx]))
  | [], [], _ :: _, _, _, h, _, _ => by simp [DataW.TrodAll] at h
  | [], _ :: _, _, _, _, h, _, _ => by simp [DataW.TrodAll] at h
  | _ :: _, [], _, _, _, h, _, _ => by simp [DataW.TrodAll] at h
  | _ :: _, _ :: _, [], _, _, h, _, _ => by simp [DataW.TrodAll] at h
theorem post_law {f : Func} {s : ChangeSpec} {apart fresh handsOn : Bool} {W W' : World} {args : Array Value} {ds gs : List (DataW H)} {before : List MemPlace}
    (hl : laidOutB P = true) (hr : ∀ t ∈ f.params.toList, P.readableRec t = true ∧ t < P.types.size) (hv : s.vars = [])
    (hs : (s.fn H (ds ++ gs)) = { results := [.lit (.bool true)], args := ds }) {tb : TypeId} (hres : f.resultTypes = #[tb]) (htb : P.underlying tb = some .bool)
    (hW : DataW.Whole enc P f.params.toList s.vars apart W args.toList ds gs before) (hB : Below W.heap.size W W') :
    s.post enc P f apart fresh handsOn false W args (.bool true) W' := by
  have hlt := hW.lt
  have hW' := hW
  obtain ⟨p, q, h1, h2, rfl, h3, h4⟩ := hW
  rw [hv] at h2
  have hq : q = [] ∧ gs = [] := by
    cases gs with
    | nil => simp only [DataW.TrodVars] at h2; exact ⟨h2, rfl⟩
    | cons _ _ => simp [DataW.TrodVars] at h2
  obtain ⟨rfl, rfl⟩ := hq
  refine ⟨ds, [], p ++ [], [], p, [], hW', ?_, ?_, ?_, hB.frame _, fun h => by simp at h⟩
  · rw [hs, hres]
    exact trodAll_mk1 ⟨1, by simp [DataW.trod, htb, Value.cells]⟩
  · rw [hs]
    exact trodAll_stays hl hB hr h1 (fun x hx => hlt x (by simp [hx])) (fun x hx => by simpa using hlt x (by simp [hx]))
  · rw [hs, hv]; simp [DataW.TrodVars]
end
theorem law_of_call {P : Program} {G : Nat → Option (List AV)} {f : FuncId} {args : List AV} {r : Res} (h : CallRel P G f args [] [] r) (hr : r.val = .bool true) {w : World} {ok : Nat → Prop}
    (hok : ∀ b, ok b → b < w.heap.size) (hg : ∀ g cs, G g = some cs → ok g ∧ RepCells ⟨fun _ => none, ok⟩ w g 0 cs) {vs : List Value} (ha : RepL ⟨fun _ => none, ok⟩ w args vs) :
    Calls P f vs.toArray w fun e w' => e = .returned (.bool true) ∧ Below w.heap.size w w' := by
  have hi : Inv G (fun k => w.heap.size ≤ k) ⟨fun _ => none, ok⟩ w (fun _ => none) := ⟨hok, fun id bk h => by simp at h, fun i j x y h => absurd rfl h, hg, fun k hk => hk⟩
  refine (h.2 _ _ w _ vs (by simp) hi ha (fun _ _ => rfl)).mono fun e w' he => ?_
  obtain ⟨v, E', rfl, hp⟩ := he
  have hv := hp.rep
  rw [hr] at hv
  simp only [Rep] at hv
  subst hv
  exact ⟨rfl, hp.adv.os, hp.adv.tape, hp.adv.output, hp.adv.size, fun k hk => hp.adv.block k hk (by omega)⟩
end Go.VL
end

section
namespace Go.Proofs.YtcomlgfjnjpebaaGreatDoor
open Go.ChangeShapes Go.WideShapes Go.ChangeAt Go.WideMaps Go.WideElems Go.RowKit
theorem Tryz.own : ownKnob Tryz.prog.godebug = none := by kernel_rfl
theorem Tryz.laidOut : laidOutB Tryz.prog = true := by kernel_rfl
set_option maxRecDepth 100000 in
theorem awake_vp : VL.VP Tryz.prog (fun _ => none) 9 [] (.bool true) := VL.VP.of_memo m0_ok rfl rfl (VL.FlatAV.bool true)
theorem handed_and_shaped {H : Type} {enc : TypeId × Value → H} {a : Assume} {C : Checked} {os : Os} {f : FuncId} {fn : Func} {s : ChangeSpec} {conds : List PathCond} {apart fresh handsOn again : Bool} {X : World → Array Value → Prop}
    (hX : ∀ (w w' : World) (args : Array Value), w.heap = w'.heap → X w args → X w' args)
    (own : ownKnob C.prog.godebug = none) (started : os.Started) (noInit : C.prog.inits.idxOf? f = none) (hfn : C.prog.funcs[f]? = some fn)
    (witness : ∃ (w : World) (tape : Tape) (i : Input), w.os = os ∧ (w.forCall tape i).Shaped C.prog ∧ i.vars = [] ∧ Input.okWide C.prog (w.forCall tape i) .any w.heap.size f i ∧
      ((s.pre enc C.prog fn conds apart (w.forCall tape i).memory i.args ∧ X (w.forCall tape i).memory i.args) ∧ sizedMet enc C.prog fn (OpenSpec.ofChange s) apart (w.forCall tape i).memory i.args) ∧ a.holds C.prog (lone (Frame.enter C.prog f i.args .normal) [] (w.forCall tape i)))
    (contract : ∀ (W : World) (base : Nat) (args : Array Value) (ds gs : List (DataW H)) (before : List MemPlace),
      (∀ (j : Nat) t v, fn.params[j]? = some t → args[j]? = some v → Value.okWide C.prog W .any base t v) →
      DataW.Whole enc C.prog fn.params.toList s.vars apart W args.toList ds gs before → X W args → W.ShapedOpen C.prog →
      Calls C.prog f args W fun e W' => ∃ v, e = .returned v ∧ s.post enc C.prog fn apart fresh handsOn again W args v W') :
    ReturnsInHanded a C os f .any (fun w args => (s.pre enc C.prog fn conds apart w args ∧ X w args) ∧ sizedMet enc C.prog fn (OpenSpec.ofChange s) apart w args) (s.post enc C.prog fn apart fresh handsOn again) := by
  refine returnsInHanded_of_calls own started noInit witness ?_
  intro w tape i _ hsh _ hok hpre _
  obtain ⟨_, _, _, fn', hfn', _, _, _, _, hval⟩ := hok
  have e : fn' = fn := Option.some.inj (hfn'.symm.trans hfn)
  subst e
  obtain ⟨⟨⟨ds, gs, before, hw, _⟩, hx⟩, _⟩ := hpre
  have hw' := DataW.Whole.of_heap (w' := w.forCall tape i) (by rfl) hw
  refine (contract (w.forCall tape i) w.heap.size i.args ds gs before hval hw' (hX _ _ _ (by rfl) hx) hsh).mono fun e W' ⟨v, he, hp⟩ => ?_
  subst he
  exact ChangeSpec.post_blind hp
theorem laid_ints {P : Program} {w : World} {n : String} {k : IntKind} {zs : List Int} {g t e : Nat} (h : Lib.VarReads P w n (.agg (zs.map fun z => .lit (.int k z)))) (hg : P.globalNamed n = some g) (ht : (P.globals[g]?).map (·.type) = some t)
    (hu : P.underlying t = some (.array zs.length e)) (he : P.underlying e = some (.int k)) (hc : P.cellsOf e = 1) (E : VL.Env) :
    g < w.heap.size ∧ VL.RepCells E w g 0 (zs.map fun z => VL.AV.int k z) := by
  obtain ⟨g', t', cs, fuel, p, h1, h2, h3, h4⟩ := h
  obtain rfl : g' = g := Option.some.inj (h1.symm.trans hg)
  obtain rfl : t' = t := Option.some.inj (h2.symm.trans ht)
  have hcell : ∃ ty fr, w.heap[g']? = some (.cells cs ty fr) := by
    unfold World.var? at h3
    rw [hg] at h3
    simp only [Option.bind_some] at h3
    cases hh : w.heap[g']? with
    | none => rw [hh] at h3; cases h3
    | some o =>
      rw [hh] at h3
      cases o <;> simp at h3
      subst h3
      exact ⟨_, _, rfl⟩
  obtain ⟨ty, fr, hcell⟩ := hcell
  refine ⟨VL.cells_lt hcell, VL.repCells_iff.2 fun j c hj => ?_⟩
  rw [List.getElem?_map] at hj
  cases hz : zs[j]? with
  | none => rw [hz] at hj; cases hj
  | some z =>
    rw [hz] at hj
    simp only [Option.map_some, Option.some.injEq] at hj
    subst hj
    have hlt : j < zs.length := (List.getElem?_eq_some_iff.1 hz).1
    obtain ⟨fuel', d, q, hd, hr⟩ := Lib.array_elem hu h4 j hlt
    rw [List.getElem?_map, hz] at hd
    simp only [Option.map_some, Option.some.injEq] at hd
    subst hd
    rw [hc, Nat.mul_one] at hr
    obtain ⟨m, hm, hx, _⟩ := DataW.trod_int he hr
    simp only [Prod.mk.injEq, DataW.lit.injEq, Lit.int.injEq, true_and] at hx
    obtain ⟨rfl, _⟩ := hx
    have h0 := congrArg (·[0]?) hm
    simp only [List.getElem?_take, List.getElem?_drop, Nat.add_zero, Nat.zero_lt_one, if_true, Array.getElem?_toList, List.getElem?_cons_zero] at h0
    refine ⟨.int k z, ?_, by simp only [VL.Rep]⟩
    unfold World.cell?
    rw [Nat.zero_add, show ((⟨g', j, none⟩ : Addr)).block = g' from rfl, hcell]
    simpa using h0
theorem globs {W : World} (hL : laidMetH Tryz.prog Rows.historyNeedsRow.laid W) (hsh : W.ShapedOpen Tryz.prog) : ∃ m, ∀ g cs, gN m g = some cs → g < W.heap.size ∧ VL.RepCells (VL.openE W) W g 0 cs := by
  have hm0 : laidMet Tryz.prog Rows.historyNeedsRow.laid W := hL
  have h0 := laid_ints (zs := [0, 0, 0, 1, 2, 2, 2, 2]) (k := .i64) (g := 0) (t := 126) (e := 3) (Lib.laidMet.reads hm0 (n := "setsquare/formula.operands") (d := Rows.laid_setsquare_formula_operands) (by simp [Rows.historyNeedsRow])) (by kernel_rfl) (by kernel_rfl) Tryz.underlying126 Tryz.underlying3 (by kernel_rfl) (VL.openE W)
  have h2 := laid_ints (zs := (List.range 20).map fun i => ((10 ^ i : Nat) : Int)) (k := .u64) (g := 2) (t := 209) (e := 118) (Lib.laidMet.reads hm0 (n := "internal/strconv.uint64pow10") (d := Rows.laid_internal_strconv_uint64pow10) (by simp [Rows.historyNeedsRow])) (by kernel_rfl) (by kernel_rfl) Tryz.underlying209 Tryz.underlying118 (by kernel_rfl) (VL.openE W)
  obtain ⟨m, hm⟩ := Tryz.laysM145.s1_3 W hsh
  have h1 : W.cell? ⟨1, 0, none⟩ = some (.int .i64 m) := hm
  refine ⟨m, fun g cs hg => ?_⟩
  match g, hg with
  | 0, hg => cases hg; exact h0
  | 1, hg =>
    cases hg
    exact ⟨World.block_lt_of_cell? _ _ h1, by simp only [VL.RepCells, VL.Rep]; exact ⟨⟨_, h1, rfl⟩, trivial⟩⟩
  | 2, hg =>
    cases hg
    rw [List.map_map] at h2
    exact h2
  | n + 3, hg => cases hg
theorem door_met (os : Os) (args : Array Value) : laidMetH Tryz.prog Rows.historyNeedsRow.laid ((World.doorLaid Tryz.prog 400 os).forCall (fun _ _ => 0) ⟨#[], args, []⟩).memory :=
  laidMetH_of_parts3 (fuel := 8) (laidMet_of_run' 8 (by kernel_rfl) (by kernel_rfl)) (by kernel_rfl) (by kernel_rfl)
set_option maxRecDepth 100000 in
theorem lifted (os : Os) (started : os.Started) (H : Type) (enc : TypeId × Value → H) :
    ReturnsInHanded {} Tryz.checked os 3 .any (fun w args => (Rows.historyNeedsSpec.pre enc Tryz.prog Tryz.f3 [] false w args ∧ laidMetH Tryz.prog Rows.historyNeedsRow.laid w) ∧ sizedMet enc Tryz.prog Tryz.f3 (OpenSpec.ofChange Rows.historyNeedsSpec) false w args)
      (Rows.historyNeedsSpec.post enc Tryz.prog Tryz.f3 false true false false) := by
  refine handed_and_shaped (C := Tryz.checked) (X := fun w _ => laidMetH Tryz.prog Rows.historyNeedsRow.laid w) (fun _ _ _ hh h => h.of_heap hh) Tryz.own started (by kernel_rfl) Tryz.func3
    (ChangeSpec.witness_shaped (enc := enc) (C := Tryz.checked) (os := os) (X := fun w _ => laidMetH Tryz.prog Rows.historyNeedsRow.laid w) false (World.doorLaid Tryz.prog 400 os) #[.agg #[.string ⟨#[]⟩, .int .i64 0, .slice none 0 0, .slice none 0 0, .bool false]] 8 rfl (World.shaped_of_RefB (by kernel_rfl) (by kernel_rfl)) (by kernel_rfl) (by kernel_rfl) (by kernel_rfl) (door_met os _)) ?_
  intro W base args ds gs before hval0 hW hL hsh
  have hval : ∀ (j : Nat) t v, Tryz.f3.params[j]? = some t → args[j]? = some v → Value.okWide Tryz.prog W .any base t v := hval0
  have hW' := hW
  obtain ⟨p, q, hA0, hV, rfl, hfz, hnd⟩ := hW
  have hA : DataW.TrodAll enc Tryz.prog W 0 (fun _ => true) true Tryz.f3.params.toList args.toList ds p := hA0
  rw [Tryz.params3] at hA hval
  obtain ⟨v0, d0, rfl, rfl, h0⟩ := trodAll_one hA
  obtain ⟨rfl, rfl⟩ := trodVars_none hV
  clear hA0 hval0
  have hv0 := hval 0 25 v0 rfl rfl
  obtain ⟨vs, rfl, hsz⟩ := okWide_struct Tryz.underlying25 hv0
  obtain ⟨fuel, hf⟩ := h0
  obtain ⟨X, hX, hR⟩ := ox_feature rfl hf
  obtain ⟨m, hm⟩ := globs hL hsh
  have hrep : VL.RepL (VL.openE W) W [X.av] [.agg vs] := by
    simp only [VL.RepL]
    exact ⟨_, [], rfl, by simp only [VL.FX.av, VL.Feat.av, VL.Rep]; exact ⟨vs, rfl, hR⟩, rfl⟩
  refine (VL.law_of_call (ok := fun b => b < W.heap.size) (VL.CallRel.of_VP (law3 m awake_vp X hX) (by intro c hc; simp at hc; subst hc; exact VL.FX.pure X) []) rfl (fun _ h => h) hm (vs := [.agg vs]) hrep).mono fun e W' he => ?_
  obtain ⟨rfl, hB⟩ := he
  exact ⟨_, rfl, VL.post_law Tryz.laidOut (by rw [Tryz.params3]; intro t ht; simp at ht; subst ht; exact ⟨by kernel_rfl, by decide +kernel⟩) rfl rfl rfl (tb := 4) Tryz.underlying4 hW' hB⟩
theorem historyNeeds_row : Rows.HistoryNeedsSaid :=
  OpenClaim.holds_of_wide 3 Tryz.f3 rfl rfl rfl rfl rfl rfl rfl ⟨rfl, rfl, rfl, rfl, rfl⟩ rfl rfl rfl rfl rfl (by kernel_rfl) Tryz.func3 (by kernel_rfl)
    (of_decide_eq_true (by kernel_rfl)) (by unfold Func.isWrapper; first | (rw [if_pos (by decide +kernel)]; kernel_rfl) | (rw [if_neg (by decide +kernel)]; exact ⟨rfl, rfl⟩))
    (fun os started H enc _ => lifted os started H enc)
theorem historyNeeds_card : Rows.HistoryNeedsCardSaid :=
  Claim7.holds_tied_plain_at .later [] [.data, .data, .data, .data] true (true, "3d11a4bf1dee2d66407522a903d62afb625a42b086ed699c822710aab6d4fdf7") false
    historyNeeds_row (fun _ h => by cases h) (by kernel_rfl) (fun _ h => by cases h) historyNeeds_row_tie rfl ⟨rfl, rfl⟩ (by kernel_rfl) rfl
    (fun f fn hf hfn => by
      obtain rfl : f = 3 := Option.some.inj ((show Tryz.prog.funcNamed Tryz.f3.name = some 3 by kernel_rfl).symm.trans hf) |>.symm
      obtain rfl : fn = Tryz.f3 := (Option.some.inj (Tryz.func3.symm.trans hfn)).symm
      exact ⟨by kernel_rfl, fun j t ht => by
        rw [Tryz.params3] at ht
        have hm : t ∈ [25] := by simpa using Array.mem_of_getElem? ht
        have hall : ([25].all fun u => !Tryz.prog.wantsStandIn u) = true := by kernel_rfl
        exact (show Tryz.prog.wantsStandIn t = false by simpa using List.all_eq_true.1 hall t hm)⟩)
    (by kernel_rfl)
end Go.Proofs.YtcomlgfjnjpebaaGreatDoor
end
