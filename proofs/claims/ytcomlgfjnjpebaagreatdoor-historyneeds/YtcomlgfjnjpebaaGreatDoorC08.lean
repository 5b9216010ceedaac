/- For the claim of HistoryNeeds: parts CR9, CR10, DT, CR11, TUV, FMT, VL32, FMH, BKH, VL33, FRH, FVH, CF1, CF2, HI1. -/
import Derived.Test.YtcomlgfjnjpebaaGreatDoorC07
import Derived.Lib.ItoaNum
import Derived.Test.YtcomlgfjnjpebaaGreatDoorC05
import Derived.Test.YtcomlgfjnjpebaaGreatDoorC06
import Derived.RangeFuncCalls
import Derived.RangeFuncBox
import Derived.RangeFuncLeaves
import Derived.Shelf.Abstract
import Derived.WalkKit
import Derived.OwnWalkIn
import Derived.TacticsInMore
import Derived.LoopNIn
import Derived.LoopIn
import Derived.Test.YtcomlgfjnjpebaaGreatDoorC04
set_option linter.unusedSimpArgs false
set_option linter.unusedVariables false
section
set_option linter.unusedSimpArgs false
namespace Go.VL
theorem sgn_add1 {a b : Int} (h : decide (a < 0) = decide (b < 0)) : sgn (decide (a < 0)) (a.natAbs + b.natAbs) = a + b := by
  unfold sgn
  by_cases h1 : a < 0 <;> by_cases h2 : b < 0 <;> simp [h1, h2] at h ⊢ <;> omega
theorem sgn_add2 {a b : Int} (h : ¬ decide (a < 0) = decide (b < 0)) (hn : b.natAbs ≤ a.natAbs) : sgn (decide (a < 0)) (a.natAbs - b.natAbs) = a + b := by
  unfold sgn
  by_cases h1 : a < 0 <;> by_cases h2 : b < 0 <;> simp [h1, h2] at h ⊢ <;> omega
theorem not_neg (n : Nat) : decide ((n : Int) < 0) = false := dec_false (by omega)
theorem abs_nat (n : Nat) : (n : Int).natAbs = n := rfl
section
variable {P : Program} {G : Nat → Option (List AV)}
theorem radd_ok {f fn fp fs fc fm : FuncId} (h : Has P f (w_setsquareref01_Add fn fp fs fc fm)) (hn : ∀ z : Int, wlen z.natAbs ≤ 1000000 → VP P G fn [IV z] (IV z))
    (hp : ∀ m n, wlen m ≤ 1000000 → wlen n ≤ 1000000 → VP P G fp [W m, W n] (W (m + n))) (hs : SignedC P G fs) (hc : ∀ m n, wlen m ≤ 1000000 → wlen n ≤ 1000000 → VP P G fc [W m, W n] (.int .i64 (cmpN m n)))
    (hm : ∀ m n, n ≤ m → wlen m ≤ 1000000 → VP P G fm [W m, W n] (W (m - n))) (a b : Int) (ha : wlen a.natAbs ≤ 1000000) (hb : wlen b.natAbs ≤ 1000000) : VP P G f [IV a, IV b] (IV (a + b)) := by
  refine VP.has h ?_
  have k01 : ([0] : List Nat) ≠ [1] := by decide
  have k02 : ([0] : List Nat) ≠ [2] := by decide
  have k12 : ([1] : List Nat) ≠ [2] := by decide
  have hwl : wlen (a.natAbs + b.natAbs) ≤ 9223372036854775807 := by
    have : wlen (a.natAbs + b.natAbs) ≤ wlen a.natAbs + wlen b.natAbs + 1 := wlen_le (by
      have e1 := lt_pow_wlen a.natAbs
      have e2 := lt_pow_wlen b.natAbs
      have e3 : B32 ^ wlen a.natAbs ≤ B32 ^ (wlen a.natAbs + wlen b.natAbs) := Nat.pow_le_pow_right B32_pos (by omega)
      have e4 : B32 ^ wlen b.natAbs ≤ B32 ^ (wlen a.natAbs + wlen b.natAbs) := Nat.pow_le_pow_right B32_pos (by omega)
      have e5 : B32 ^ (wlen a.natAbs + wlen b.natAbs) * 2 ≤ B32 ^ (wlen a.natAbs + wlen b.natAbs) * B32 := Nat.mul_le_mul_left _ (by decide)
      rw [Nat.pow_succ]; omega)
    omega
  have hpv := hp a.natAbs b.natAbs ha hb
  have hcv := hc a.natAbs b.natAbs ha hb
  simp only [w_setsquareref01_Add, SS, DD, Nat.reduceAdd, reduceIte, IV_one, zeroI_one, load_skip k01, load_skip k02, load_skip k12, load_put, IV_all]
  refine vdCall_VP (hn a ha) (by simp [IV_pure]) ?_
  simp only [SS, DD, Nat.reduceAdd, reduceIte, load_skip k01, load_skip k02, load_skip k12, load_put, IV_all]
  refine vdCall_VP (hn b hb) (by simp [IV_pure]) ?_
  simp only [SS, DD, Nat.reduceAdd, reduceIte]
  rw [store_IV' (k := (IV a).size) (y := IV a) rfl (IV_upd _ _) (by simp [Store.put])]
  simp only [SS, DD, Nat.reduceAdd, reduceIte]
  rw [store_IV' (k := (IV b).size) (y := IV b) rfl (IV_upd _ _) (by simp [Store.put])]
  simp only [SS, DD, Nat.reduceAdd, reduceIte]
  refine ⟨by simp [allApart, apart], ?_⟩
  simp only [SS, Nat.reduceAdd, reduceIte, load_skip k01, load_skip k02, load_skip k12, load_put, IV_p0]
  by_cases hab : decide (a < 0) = decide (b < 0)
  · have d0 : (decide (a < 0) == decide (b < 0)) = true := by rw [hab]; exact beq_self_eq_true _
    have hsv := hs (decide (a < 0)) (a.natAbs + b.natAbs) hwl
    rw [sgn_add1 hab] at hsv
    simp only [SS, DD, Nat.reduceAdd, reduceIte, d0, load_skip k01, load_skip k02, load_skip k12, load_put, IV_p0, IV_p1]
    refine vdCall_VP hpv (by simp [W_pure]) ?_
    simp only [SS, DD, Nat.reduceAdd, reduceIte]
    refine vdCall_VP hsv (by simp [W_pure, PureAV.bool]) ?_
    simp only [SS, DD, Nat.reduceAdd, reduceIte]
    rw [store_IV' (k := (AV.agg [.bool false, .nils]).size) (y := .agg [.bool false, .nils]) rfl (Z_upd _) (by simp [Store.put])]
    simp only [SS, DD, Nat.reduceAdd, reduceIte]
    refine ⟨by simp [allApart, apart], ?_⟩
    refine retQ_ret ▸ retQ_of_pure (r := IV (a + b)) ?_ (IV_pure _)
    simp only [RS, outAV, resAV, load_put, IV_all]
  · have d0 : (decide (a < 0) == decide (b < 0)) = false := by simpa using hab
    simp only [SS, Nat.reduceAdd, reduceIte, d0, load_skip k01, load_skip k02, load_skip k12, load_put, IV_p1]
    refine vsCall_VP hcv (by simp [W_pure]) ?_
    by_cases hge : b.natAbs ≤ a.natAbs
    · have d1 : decide (0 ≤ cmpN a.natAbs b.natAbs) = true := dec_true (by simp only [cmpN, cmpI]; rw [if_neg (by omega)]; split <;> decide)
      have hmv := hm a.natAbs b.natAbs hge ha
      have hsv := hs (decide (a < 0)) (a.natAbs - b.natAbs) (by have := wlen_mono (Nat.sub_le a.natAbs b.natAbs); omega)
      rw [sgn_add2 hab hge] at hsv
      simp only [SS, DD, Nat.reduceAdd, reduceIte, d1, load_skip k01, load_skip k02, load_skip k12, load_put, IV_p0, IV_p1]
      refine vdCall_VP hmv (by simp [W_pure]) ?_
      simp only [SS, DD, Nat.reduceAdd, reduceIte]
      refine vdCall_VP hsv (by simp [W_pure, PureAV.bool]) ?_
      simp only [SS, DD, Nat.reduceAdd, reduceIte]
      rw [store_IV' (k := (AV.agg [.bool false, .nils]).size) (y := .agg [.bool false, .nils]) rfl (Z_upd _) (by simp [Store.put])]
      simp only [SS, DD, Nat.reduceAdd, reduceIte]
      refine ⟨by simp [allApart, apart], ?_⟩
      refine retQ_ret ▸ retQ_of_pure (r := IV (a + b)) ?_ (IV_pure _)
      simp only [RS, outAV, resAV, load_put, IV_all]
    · have d1 : decide (0 ≤ cmpN a.natAbs b.natAbs) = false := dec_false (by simp only [cmpN, cmpI]; rw [if_pos (by omega)]; decide)
      have hmv := hm b.natAbs a.natAbs (by omega) hb
      have hsv := hs (decide (b < 0)) (b.natAbs - a.natAbs) (by have := wlen_mono (Nat.sub_le b.natAbs a.natAbs); omega)
      rw [sgn_add2 (fun e => hab e.symm) (by omega), Int.add_comm] at hsv
      simp only [SS, DD, Nat.reduceAdd, reduceIte, d1, load_skip k01, load_skip k02, load_skip k12, load_put, IV_p0, IV_p1]
      refine vdCall_VP hmv (by simp [W_pure]) ?_
      simp only [SS, DD, Nat.reduceAdd, reduceIte]
      refine vdCall_VP hsv (by simp [W_pure, PureAV.bool]) ?_
      simp only [SS, DD, Nat.reduceAdd, reduceIte]
      rw [store_IV' (k := (AV.agg [.bool false, .nils]).size) (y := .agg [.bool false, .nils]) rfl (Z_upd _) (by simp [Store.put])]
      simp only [SS, DD, Nat.reduceAdd, reduceIte]
      refine ⟨by simp [allApart, apart], ?_⟩
      refine retQ_ret ▸ retQ_of_pure (r := IV (a + b)) ?_ (IV_pure _)
      simp only [RS, outAV, resAV, load_put, IV_all]
theorem rsub_ok {f fn fa : FuncId} (h : Has P f (w_setsquareref01_Sub fn fa)) (hn : ∀ z : Int, wlen z.natAbs ≤ 1000000 → VP P G fn [IV z] (IV (-z)))
    (ha : ∀ a b : Int, wlen a.natAbs ≤ 1000000 → wlen b.natAbs ≤ 1000000 → VP P G fa [IV a, IV b] (IV (a + b))) (a b : Int) (hwa : wlen a.natAbs ≤ 1000000) (hwb : wlen b.natAbs ≤ 1000000) : VP P G f [IV a, IV b] (IV (a - b)) := by
  refine VP.has h ?_
  have k01 : ([0] : List Nat) ≠ [1] := by decide
  have k02 : ([0] : List Nat) ≠ [2] := by decide
  have k12 : ([1] : List Nat) ≠ [2] := by decide
  have hav := ha a (-b) hwa (by rw [Int.natAbs_neg]; exact hwb)
  rw [← Int.sub_eq_add_neg] at hav
  simp only [w_setsquareref01_Sub, SS, DD, Nat.reduceAdd, reduceIte, IV_one, zeroI_one, load_skip k01, load_skip k02, load_skip k12, load_put, IV_all]
  refine vdCall_VP (hn b hwb) (by simp [IV_pure]) ?_
  simp only [SS, DD, Nat.reduceAdd, reduceIte]
  refine vdCall_VP hav (by simp [IV_pure]) ?_
  simp only [SS, DD, Nat.reduceAdd, reduceIte]
  rw [store_IV' (k := (AV.agg [.bool false, .nils]).size) (y := .agg [.bool false, .nils]) rfl (Z_upd _) (by simp [Store.put])]
  simp only [SS, DD, Nat.reduceAdd, reduceIte]
  refine ⟨by simp [allApart, apart], ?_⟩
  refine retQ_ret ▸ retQ_of_pure (r := IV (a - b)) ?_ (IV_pure _)
  simp only [RS, outAV, resAV, load_put, IV_all]
theorem rmulI_ok {f fn ft fs : FuncId} (h : Has P f (w_setsquareref01_Mul fn ft fs)) (hn : ∀ z : Int, wlen z.natAbs ≤ 1000000 → VP P G fn [IV z] (IV z))
    (ht : ∀ m n, wlen m ≤ 1000000 → wlen n ≤ 1000000 → VP P G ft [W m, W n] (W (m * n))) (hs : SignedC P G fs) (a b : Int) (ha : wlen a.natAbs ≤ 1000000) (hb : wlen b.natAbs ≤ 1000000) : VP P G f [IV a, IV b] (IV (a * b)) := by
  refine VP.has h ?_
  have k01 : ([0] : List Nat) ≠ [1] := by decide
  have k02 : ([0] : List Nat) ≠ [2] := by decide
  have k12 : ([1] : List Nat) ≠ [2] := by decide
  have htv := ht a.natAbs b.natAbs ha hb
  have hs' := hs (!(decide (a < 0) == decide (b < 0))) (a.natAbs * b.natAbs) (by have := wlen_mul a.natAbs b.natAbs; omega)
  rw [sgn_mul] at hs'
  simp only [w_setsquareref01_Mul, SS, DD, Nat.reduceAdd, reduceIte, IV_one, zeroI_one, load_skip k01, load_skip k02, load_skip k12, load_put, IV_all]
  refine vdCall_VP (hn a ha) (by simp [IV_pure]) ?_
  simp only [SS, DD, Nat.reduceAdd, reduceIte, load_skip k01, load_skip k02, load_skip k12, load_put, IV_all]
  refine vdCall_VP (hn b hb) (by simp [IV_pure]) ?_
  simp only [SS, DD, Nat.reduceAdd, reduceIte]
  rw [store_IV' (k := (IV a).size) (y := IV a) rfl (IV_upd _ _) (by simp [Store.put])]
  simp only [SS, DD, Nat.reduceAdd, reduceIte]
  rw [store_IV' (k := (IV b).size) (y := IV b) rfl (IV_upd _ _) (by simp [Store.put])]
  simp only [SS, DD, Nat.reduceAdd, reduceIte]
  refine ⟨by simp [allApart, apart], ?_⟩
  simp only [SS, DD, Nat.reduceAdd, reduceIte, load_skip k01, load_skip k02, load_skip k12, load_put, IV_p0, IV_p1]
  refine vdCall_VP htv (by simp [W_pure]) ?_
  simp only [SS, DD, Nat.reduceAdd, reduceIte]
  refine vdCall_VP hs' (by simp [W_pure, PureAV.bool]) ?_
  simp only [SS, DD, Nat.reduceAdd, reduceIte]
  rw [store_IV' (k := (AV.agg [.bool false, .nils]).size) (y := .agg [.bool false, .nils]) rfl (Z_upd _) (by simp [Store.put])]
  simp only [SS, DD, Nat.reduceAdd, reduceIte]
  refine ⟨by simp [allApart, apart], ?_⟩
  refine retQ_ret ▸ retQ_of_pure (r := IV (a * b)) ?_ (IV_pure _)
  simp only [RS, outAV, resAV, load_put, IV_all]
theorem rgcd_ok {f ft fd fs : FuncId} (h : Has P f (w_setsquareref01_GCD ft fd fs)) (ht : TrimC P G ft) (hd : ∀ m n, n ≠ 0 → wlen m ≤ 900000 → wlen n ≤ 900000 → VP P G fd [W m, W n] (.tup [W (m / n), W (m % n)]))
    (hs : SignedC P G fs) (a b : Int) (ha : wlen a.natAbs ≤ 900000) (hb : wlen b.natAbs ≤ 900000) : VP P G f [IV a, IV b] (IV (Nat.gcd a.natAbs b.natAbs : Nat)) := by
  refine VP.has h ?_
  have k01 : ([0] : List Nat) ≠ [1] := by decide
  have k02 : ([0] : List Nat) ≠ [2] := by decide
  have k12 : ([1] : List Nat) ≠ [2] := by decide
  simp only [w_setsquareref01_GCD, SS, DD, Nat.reduceAdd, reduceIte, IV_one, zeroI_one, load_skip k01, load_skip k02, load_skip k12, load_put, IV_p1]
  refine vdCall_VP (trimW ht a.natAbs (by omega)) (by simp [W_pure]) ?_
  simp only [SS, DD, Nat.reduceAdd, reduceIte, load_skip k01, load_skip k02, load_skip k12, load_put, IV_p1]
  refine vdCall_VP (trimW ht b.natAbs (by omega)) (by simp [W_pure]) ?_
  simp only [SS, DD, Nat.reduceAdd, reduceIte]
  refine ⟨by simp [allApart, apart], ?_⟩
  simp only [SS, DD, Nat.reduceAdd, reduceIte, vwp_loop]
  refine VW.loopQ (α := Nat × Nat × Nat) (fun x => ⟨[IV a, IV b, .top, .top, .ref [2] 0 0, W x.1, W x.2.1] ++ List.replicate 21 .top,
    Store.put (fun _ => none) [2] (some ⟨[.agg [.bool false, .nils]], (AV.agg [.bool false, .nils]).size, false⟩), x.2.2⟩)
    (fun x => Nat.gcd x.1 x.2.1 = Nat.gcd a.natAbs b.natAbs ∧ wlen x.1 ≤ 900000 ∧ wlen x.2.1 ≤ 900000) (fun x => x.2.1) (a.natAbs, b.natAbs, 1000) ?_ ?_ ?_
  · exact Wk.forget (by simp [Fg, List.replicate]) (fun j => by simp only [Store.put]; split <;> simp_all) (by simp only []; omega)
  · exact ⟨rfl, ha, hb⟩
  rintro ⟨x, y, nn⟩ ⟨hg, hx, hy⟩
  simp only [] at hg hx hy
  have w1 := wlen_mod x y
  by_cases c3 : 0 < wlen y
  · have hy0 : y ≠ 0 := fun e => by have := wlen_pos_iff.2 e; omega
    have g5 : decide ((0 : Int) < (wlen y : Int)) = true := dec_true (by omega)
    simp only [SS, Nat.reduceAdd, reduceIte, W_len, g5]
    refine vsCall_VP (hd x y hy0 hx hy) (by simp [W_pure]) ?_
    simp only [SS, Nat.reduceAdd, reduceIte, tup2_0, tup2_1]
    exact ⟨(y, x % y, _), ⟨gcd_step hg, hy, by simp only []; omega⟩, Nat.mod_lt _ (Nat.pos_of_ne_zero hy0), Wk.slots (by simp [Fg, List.replicate]) (Nat.le_refl _)⟩
  · have g5 : decide ((0 : Int) < (wlen y : Int)) = false := dec_false (by omega)
    have hyz : y = 0 := wlen_pos_iff.1 (by omega)
    rw [hyz, Nat.gcd_zero_right] at hg
    have hs' := hs false x (by omega)
    rw [sgn_false] at hs'
    simp only [SS, Nat.reduceAdd, reduceIte, W_len, g5]
    refine vsCall_VP hs' (by simp [PureAV.bool, W_pure]) ?_
    simp only [SS, Nat.reduceAdd, reduceIte, store_IV]
    rw [← hg]
    refine retQ_ret ▸ retQ_of_pure (r := IV (x : Int)) ?_ (IV_pure _)
    simp only [RS, outAV, resAV, load_put]; rfl
theorem rdivMod_ok {f fn fd fs fm fsu fsg ffi fa : FuncId} (h : Has P f (w_setsquareref01_DivMod fn fd fs fm fsu fsg ffi fa)) (hn : ∀ z : Int, wlen z.natAbs ≤ 1000000 → VP P G fn [IV z] (IV z))
    (hd : ∀ m n, n ≠ 0 → wlen m ≤ 900000 → wlen n ≤ 900000 → VP P G fd [W m, W n] (.tup [W (m / n), W (m % n)])) (hs : SignedC P G fs)
    (hm : ∀ a b : Int, wlen a.natAbs ≤ 1000000 → wlen b.natAbs ≤ 1000000 → VP P G fm [IV a, IV b] (IV (a * b))) (hsu : ∀ a b : Int, wlen a.natAbs ≤ 1000000 → wlen b.natAbs ≤ 1000000 → VP P G fsu [IV a, IV b] (IV (a - b)))
    (hsg : ∀ z : Int, wlen z.natAbs ≤ 1000000 → VP P G fsg [IV z] (.int .i64 z.sign)) (a b : Nat) (hb0 : b ≠ 0) (ha : wlen a ≤ 900000) (hb : wlen b ≤ 900000) :
    VP P G f [IV (a : Int), IV (b : Int)] (.tup [IV ((a / b : Nat) : Int), IV ((a % b : Nat) : Int), .int .i64 0]) := by
  refine VP.has h ?_
  have k01 : ([0] : List Nat) ≠ [1] := by decide
  have k02 : ([0] : List Nat) ≠ [2] := by decide
  have k03 : ([0] : List Nat) ≠ [3] := by decide
  have k12 : ([1] : List Nat) ≠ [2] := by decide
  have k13 : ([1] : List Nat) ≠ [3] := by decide
  have k23 : ([2] : List Nat) ≠ [3] := by decide
  have hwb : wlen b ≠ 0 := fun e => hb0 (wlen_pos_iff.1 e)
  have d0 : decide ((wlen b : Int) = 0) = false := dec_false (by omega)
  have w1 := wlen_div a b
  have w2 := wlen_mod a b
  have hs' := hs false (a / b) (by omega)
  rw [sgn_false] at hs'
  have hle : a / b * b ≤ a := Nat.div_mul_le_self a b
  have hmv := hm ((a / b : Nat) : Int) (b : Int) (by rw [abs_nat]; omega) (by rw [abs_nat]; omega)
  have w3 : wlen (a / b * b) ≤ wlen a := wlen_mono hle
  rw [← Int.natCast_mul] at hmv
  have hsuv := hsu (a : Int) ((a / b * b : Nat) : Int) (by rw [abs_nat]; omega) (by rw [abs_nat]; omega)
  have er : (a : Int) - ((a / b * b : Nat) : Int) = ((a % b : Nat) : Int) := by have := Nat.div_add_mod a b; rw [Nat.mul_comm] at this; omega
  rw [er] at hsuv
  have hsg1 := hsg ((a % b : Nat) : Int) (by rw [abs_nat]; omega)
  have hsg2 := hsg (b : Int) (by rw [abs_nat]; omega)
  have d1 : decide (IntKind.i64.wrap (((a % b : Nat) : Int).sign * (b : Int).sign) < 0) = false := by
    have e1 : (b : Int).sign = 1 := Int.sign_eq_one_of_pos (by omega)
    rw [e1, Int.mul_one]
    rcases Nat.eq_zero_or_pos (a % b) with e | e
    · rw [e]; decide
    · rw [Int.sign_eq_one_of_pos (by omega)]; decide
  simp only [w_setsquareref01_DivMod, SS, DD, Nat.reduceAdd, reduceIte, IV_one, zeroI_one, load_skip k01, load_skip k02, load_skip k03, load_skip k12, load_skip k13, load_put, IV_all]
  refine vdCall_VP (hn a (by rw [abs_nat]; omega)) (by simp [IV_pure]) ?_
  simp only [SS, DD, Nat.reduceAdd, reduceIte, load_skip k01, load_skip k02, load_skip k03, load_skip k12, load_skip k13, load_put, IV_all]
  refine vdCall_VP (hn b (by rw [abs_nat]; omega)) (by simp [IV_pure]) ?_
  simp only [SS, DD, Nat.reduceAdd, reduceIte]
  rw [store_IV' (k := (IV (a : Int)).size) (y := IV (a : Int)) rfl (IV_upd _ _) (by simp [Store.put])]
  simp only [SS, DD, Nat.reduceAdd, reduceIte]
  rw [store_IV' (k := (IV (b : Int)).size) (y := IV (b : Int)) rfl (IV_upd _ _) (by simp [Store.put])]
  simp only [SS, DD, Nat.reduceAdd, reduceIte]
  refine ⟨by simp [allApart, apart], ?_⟩
  simp only [SS, Nat.reduceAdd, reduceIte, load_skip k01, load_skip k02, load_skip k03, load_skip k12, load_skip k13, load_put, IV_p0, IV_p1, abs_nat, W_len, d0]
  refine vsCall_VP (hd a b hb0 ha hb) (by simp [W_pure]) ?_
  simp only [SS, Nat.reduceAdd, reduceIte, tup2_0, tup2_1, load_skip k01, load_skip k02, load_skip k03, load_skip k12, load_skip k13, load_put, IV_p0, not_neg]
  have z0 : ([0] : List Nat) ≠ [32] := by decide
  have z1 : ([1] : List Nat) ≠ [32] := by decide
  have z2 : ([2] : List Nat) ≠ [32] := by decide
  have y0 : ([0] : List Nat) ≠ [39] := by decide
  have y1 : ([1] : List Nat) ≠ [39] := by decide
  have y2 : ([32] : List Nat) ≠ [39] := by decide
  have y3 : ([32] : List Nat) ≠ [2] := by decide
  have y4 : ([39] : List Nat) ≠ [2] := by decide
  have k10 : ([1] : List Nat) ≠ [0] := by decide
  refine vsCall_VP hs' (by simp [PureAV.bool, W_pure]) ?_
  simp only [SS, DD, Nat.reduceAdd, reduceIte, zeroI_one, store_IV, load_skip k01, load_skip k02, load_skip k03, load_skip k12, load_skip k13, load_skip z0, load_skip z1, load_put, IV_all]
  refine vdCall_VP hmv (by simp [IV_pure]) ?_
  simp only [SS, DD, Nat.reduceAdd, reduceIte]
  refine vdCall_VP hsuv (by simp [IV_pure]) ?_
  simp only [SS, DD, Nat.reduceAdd, reduceIte, zeroI_one, store_IV]
  refine ⟨by simp [allApart, apart], ?_⟩
  simp only [SS, DD, Nat.reduceAdd, reduceIte, load_put, IV_all]
  refine vdCall_VP hsg1 (by simp [IV_pure]) ?_
  simp only [SS, DD, Nat.reduceAdd, reduceIte, load_skip k01, load_skip k02, load_skip k03, load_skip k12, load_skip k13, load_skip z0, load_skip z1, load_skip y0, load_skip y1, load_put, IV_all]
  refine vdCall_VP hsg2 (by simp [IV_pure]) ?_
  simp only [SS, DD, Nat.reduceAdd, reduceIte]
  refine ⟨by simp [allApart, apart], ?_⟩
  simp only [SS, DD, Nat.reduceAdd, reduceIte, d1, load_skip y2, load_put, IV_all]
  rw [store_IV' (k := (AV.agg [.bool false, .nils]).size) (y := .agg [.bool false, .nils]) rfl (Z_upd _) (by simp [Store.put])]
  simp only [SS, DD, Nat.reduceAdd, reduceIte]
  rw [store_IV' (k := (AV.agg [.bool false, .nils]).size) (y := .agg [.bool false, .nils]) rfl (Z_upd _) (by simp [Store.put])]
  simp only [SS, DD, Nat.reduceAdd, reduceIte]
  refine ⟨by simp [allApart, apart], ?_⟩
  refine retQ_ret ▸ retQ_of_pure (r := .tup [IV ((a / b : Nat) : Int), IV ((a % b : Nat) : Int), .int .i64 0]) ?_ (PureAV.tup (by intro c hc; simp at hc; rcases hc with rfl | rfl | rfl; exact IV_pure _; exact IV_pure _; exact PureAV.int _ _))
  simp only [RS, outAV, resAV, load_skip k23, load_put, IV_all]
theorem rsame_ok {f fc : FuncId} (h : Has P f (w_setsquareref01_Same fc)) (hc : ∀ m n, wlen m ≤ 1000000 → wlen n ≤ 1000000 → VP P G fc [W m, W n] (.int .i64 (cmpN m n))) (a b : Int) (ha : wlen a.natAbs ≤ 1000000) (hb : wlen b.natAbs ≤ 1000000) :
    VP P G f [IV a, IV b] (.bool (decide (a = b))) := by
  refine VP.has h ?_
  have k01 : ([0] : List Nat) ≠ [1] := by decide
  simp only [w_setsquareref01_Same, SS, Nat.reduceAdd, reduceIte, IV_one, load_skip k01, load_put, IV_p0]
  by_cases hab : decide (a < 0) = decide (b < 0)
  · have d0 : (decide (a < 0) == decide (b < 0)) = true := by rw [hab]; exact beq_self_eq_true _
    have d1 : decide (cmpN a.natAbs b.natAbs = 0) = decide (a = b) := by
      have hab' : (a < 0) ↔ (b < 0) := by simpa using hab
      by_cases e : a = b
      · rw [dec_true e, dec_true (by rw [e]; exact cmpI_eq rfl)]
      · rw [dec_false e, dec_false (fun e2 => e (by
          simp only [cmpN, cmpI] at e2
          split at e2
          · omega
          · split at e2 <;> omega))]
    simp only [SS, Nat.reduceAdd, reduceIte, d0, load_skip k01, load_put, IV_p1]
    refine vsCall_VP (hc _ _ ha hb) (by simp [W_pure]) ?_
    simp only [SS, Nat.reduceAdd, reduceIte, d1]
    exact retQ_ret ▸ retQ_of_pure rfl (PureAV.bool _)
  · have d0 : (decide (a < 0) == decide (b < 0)) = false := by simpa using hab
    have d1 : decide (a = b) = false := dec_false (fun e => hab (by rw [e]))
    rw [d1]
    simp only [SS, Nat.reduceAdd, reduceIte, d0]
    exact retQ_ret ▸ retQ_of_pure rfl (PureAV.bool _)
theorem r2quo_ok {f fd : FuncId} (h : Has P f (w_setsquareref02_quo fd)) (a b : Nat) (hd : VP P G fd [IV (a : Int), IV (b : Int)] (.tup [IV ((a / b : Nat) : Int), IV ((a % b : Nat) : Int), .int .i64 0])) : VP P G f [IV (a : Int), IV (b : Int)] (IV ((a / b : Nat) : Int)) := by
  refine VP.has h ?_
  have k01 : ([0] : List Nat) ≠ [1] := by decide
  have k02 : ([0] : List Nat) ≠ [2] := by decide
  have k12 : ([1] : List Nat) ≠ [2] := by decide
  have ka : ([10] : List Nat) ≠ [11] := by decide
  have kb : ([2] : List Nat) ≠ [10] := by decide
  have kc : ([2] : List Nat) ≠ [11] := by decide
  simp only [w_setsquareref02_quo, SS, Nat.reduceAdd, reduceIte, IV_one, zeroI_one, load_skip k01, load_skip k02, load_skip k12, load_put, IV_all]
  refine vsCall_VP hd (by simp [IV_pure]) ?_
  simp only [SS, Nat.reduceAdd, reduceIte, tup3_0, tup3_1, tup3_2, zeroI_one]
  rw [store_IV' (k := (AV.agg [.bool false, .nils]).size) (y := .agg [.bool false, .nils]) rfl (Z_upd _) (by simp [Store.put])]
  simp only [SS, Nat.reduceAdd, reduceIte]
  rw [store_IV' (k := (AV.agg [.bool false, .nils]).size) (y := .agg [.bool false, .nils]) rfl (Z_upd _) (by simp [Store.put])]
  simp only [SS, Nat.reduceAdd, reduceIte, load_skip ka, load_put, IV_all]
  rw [store_IV' (k := (AV.agg [.bool false, .nils]).size) (y := .agg [.bool false, .nils]) rfl (Z_upd _) (by simp [Store.put])]
  simp only [SS, Nat.reduceAdd, reduceIte]
  refine retQ_ret ▸ retQ_of_pure (r := IV ((a / b : Nat) : Int)) ?_ (IV_pure _)
  simp only [RS, outAV, resAV, load_put, IV_all]
end
end Go.VL
end

section
set_option linter.unusedSimpArgs false
namespace Go.VL
theorem RV_q0 (a b : Int) : part false (RV a b).cells 1 1 = some (W a.natAbs) := rfl
theorem wlen_val {ws : List Nat} (hw : Wd ws) : wlen (val ws) ≤ ws.length := wlen_le (val_lt hw)
theorem ivalid_wlen (neg : Bool) {ws : List Nat} (hw : Wd ws) : (decide (wlen (val ws) = ws.length) && (!neg || decide (0 < ws.length))) = ivalid neg ws := by
  unfold ivalid
  by_cases h0 : ws = []
  · subst h0; simp [wlen, val, digits_zero]
  · rw [if_neg h0]
    have hpos : 0 < ws.length := List.length_pos_iff.2 h0
    rw [dec_true hpos, Bool.or_true, Bool.and_true]
    obtain ⟨k, hk⟩ : ∃ k, ws.length = k + 1 := ⟨ws.length - 1, by omega⟩
    obtain ⟨b, x, rfl, hb⟩ := split_last hk
    have e : (b ++ [x])[(b ++ [x]).length - 1]?.getD 0 = x := by simp
    rw [e]
    by_cases hx : x = 0
    · rw [dec_false (show ¬ x ≠ 0 from fun h => h hx), hx, val_snoc_zero]
      exact dec_false (by have := wlen_val (fun w hw' => hw w (by simp [hw']) : Wd b); simp; omega)
    · rw [dec_true hx]
      exact dec_true (by rw [wlen, digits_val hw (.inr ⟨x, by simp, hx⟩)])
section
variable {P : Program} {G : Nat → Option (List AV)}
theorem rivalid_ok {f ft : FuncId} (h : Has P f (w_setsquareref01_Valid ft)) (ht : TrimC P G ft) (neg : Bool) (ws : List Nat) (hw : Wd ws) (hl : ws.length ≤ 9223372036854775807) : VP P G f [IR neg ws] (.bool (ivalid neg ws)) := by
  refine VP.has h ?_
  have hlen : vlen false (.sl 1 (us ws)) = some (.int .i64 ws.length) := by simp [vlen, us_len]
  have e := ivalid_wlen neg hw
  have d0 : decide ((wlen (val ws) : Int) = (ws.length : Int)) = decide (wlen (val ws) = ws.length) := by congr 1; apply propext; omega
  have d1 : decide ((0 : Int) < (ws.length : Int)) = decide (0 < ws.length) := by congr 1; apply propext; omega
  rw [← e]
  simp only [w_setsquareref01_Valid, SS, DD, Nat.reduceAdd, reduceIte, IR_one, load_put, IR_p1]
  refine vdCall_VP (ht ws hw hl) (by simp [us_pure]) ?_
  simp only [SS, DD, Nat.reduceAdd, reduceIte, W_len, load_put, IR_p1, hlen, d0]
  by_cases c : wlen (val ws) = ws.length
  · have c1 : decide (wlen (val ws) = ws.length) = true := dec_true c
    cases neg
    · simp only [SS, DD, Nat.reduceAdd, reduceIte, c1, IR_one, load_put, IR_p0, IR_p1, hlen, Bool.true_and, Bool.not_false, Bool.true_or]
      refine ⟨by simp [allApart, apart], ?_⟩
      exact retQ_ret ▸ retQ_of_pure rfl (PureAV.bool _)
    · simp only [SS, DD, Nat.reduceAdd, reduceIte, c1, IR_one, load_put, IR_p0, IR_p1, hlen, Bool.true_and, Bool.not_true, Bool.false_or, d1]
      refine ⟨by simp [allApart, apart], ?_⟩
      exact retQ_ret ▸ retQ_of_pure rfl (PureAV.bool _)
  · have c1 : decide (wlen (val ws) = ws.length) = false := dec_false c
    simp only [SS, DD, Nat.reduceAdd, reduceIte, c1, Bool.false_and]
    refine ⟨by simp [allApart, apart], ?_⟩
    exact retQ_ret ▸ retQ_of_pure rfl (PureAV.bool _)
theorem r2fromInt_ok {f fi : FuncId} (h : Has P f (w_setsquareref02_FromInt fi)) (a : Int) (hi : VP P G fi [.int .i64 a] (IV a)) (ho : VP P G fi [.int .i64 1] (IV 1)) : VP P G f [.int .i64 a] (RV a 1) := by
  refine VP.has h ?_
  have e : (AV.agg [.bool (decide (a < 0)), W a.natAbs, .bool (decide ((1 : Int) < 0)), W (1 : Int).natAbs]) = RV a 1 := rfl
  simp only [w_setsquareref02_FromInt, SS, Nat.reduceAdd, reduceIte, zeroR_one]
  refine vsCall_VP hi (by simp [PureAV.int]) ?_
  simp only [SS, Nat.reduceAdd, reduceIte]
  refine vsCall_VP ho (by simp [PureAV.int]) ?_
  simp only [SS, Nat.reduceAdd, reduceIte, fill_RV, e, store_RV]
  refine retQ_ret ▸ retQ_of_pure (r := RV a 1) ?_ (RV_pure _ _)
  simp only [RS, outAV, resAV, load_put]; rfl
theorem r2one_ok {f : FuncId} (h : Has P f w_setsquareref02_one) (z : Int) : VP P G f [IV z] (.bool (decide (z = 1))) := by
  refine VP.has h ?_
  have hl : wlen z.natAbs = 1 → ∃ w, digits z.natAbs = [w] := fun h => List.length_eq_one_iff.1 h
  have h11 : wlen 1 = 1 := by unfold wlen; rw [digits_pos (by decide), show 1 / B32 = 0 from rfl, digits_zero]; rfl
  simp only [w_setsquareref02_one, SS, Nat.reduceAdd, reduceIte, IV_one, load_put, IV_p1, W_len]
  by_cases h1 : wlen z.natAbs = 1
  · have d1 : decide ((wlen z.natAbs : Int) = 1) = true := dec_true (by omega)
    obtain ⟨w, hw⟩ := hl h1
    have hg : (digits z.natAbs)[0]? = some w := by rw [hw]; rfl
    have hix : viaddrS 1 (W z.natAbs) (.int .i64 0) = some (.ep (AV.int .u32 (w : Int)).cells 0) := iaddrS_sl (i := 0) rfl (us_get hg)
    have hv : z.natAbs = w := by have := val_digits z.natAbs; rw [hw] at this; simp [val] at this; omega
    by_cases hw1 : w = 1
    · have d2 : decide ((w : Int) = 1) = true := dec_true (by omega)
      have e : (!decide (z < 0)) = decide (z = 1) := by
        by_cases hn : z < 0
        · rw [dec_true hn, dec_false (by omega)]; rfl
        · rw [dec_false hn, dec_true (by omega)]; rfl
      simp only [SS, Nat.reduceAdd, reduceIte, d1, load_put, IV_p0, IV_p1, hix, vload_ep, part_int, d2, e]
      exact retQ_ret ▸ retQ_of_pure rfl (PureAV.bool _)
    · have d2 : decide ((w : Int) = 1) = false := dec_false (by omega)
      have e : decide (z = 1) = false := dec_false (by omega)
      simp only [SS, Nat.reduceAdd, reduceIte, d1, load_put, IV_p0, IV_p1, hix, vload_ep, part_int, d2, e]
      exact retQ_ret ▸ retQ_of_pure rfl (PureAV.bool _)
  · have d1 : decide ((wlen z.natAbs : Int) = 1) = false := dec_false (by omega)
    have e : decide (z = 1) = false := dec_false (by intro e; rw [e] at h1; exact h1 h11)
    simp only [SS, Nat.reduceAdd, reduceIte, d1, e]
    exact retQ_ret ▸ retQ_of_pure rfl (PureAV.bool _)
set_option maxHeartbeats 2000000 in
theorem r2mul_ok {f ff fo fm fg fq : FuncId} (h : Has P f (w_setsquareref02_Mul ff fo fm fg fq)) (a b c d : Nat) (hc0 : c ≠ 0) (hf : VP P G ff [.int .i64 0] (RV 0 1)) (ho : ∀ z : Int, VP P G fo [IV z] (.bool (decide (z = 1))))
    (hm : ∀ x y : Nat, x ≤ a → y ≤ c → VP P G fm [IV (x : Int), IV (y : Int)] (IV ((x * y : Nat) : Int))) (hm2 : ∀ x y : Nat, x ≤ b → y ≤ d → VP P G fm [IV (x : Int), IV (y : Int)] (IV ((x * y : Nat) : Int)))
    (hg1 : VP P G fg [IV (a : Int), IV (d : Int)] (IV ((Nat.gcd a d : Nat) : Int))) (hg2 : VP P G fg [IV (c : Int), IV (b : Int)] (IV ((Nat.gcd c b : Nat) : Int)))
    (hq : ∀ x y : Nat, (x = a ∨ x = b ∨ x = c ∨ x = d) → (y = Nat.gcd a d ∨ y = Nat.gcd c b) → VP P G fq [IV (x : Int), IV (y : Int)] (IV ((x / y : Nat) : Int))) :
    VP P G f [RV (a : Int) (b : Int), RV (c : Int) (d : Int)] (if a = 0 then RV 0 1 else if b = 1 ∧ d = 1 then RV ((a * c : Nat) : Int) (b : Int) else RV (((a / Nat.gcd a d) * (c / Nat.gcd c b) : Nat) : Int) (((b / Nat.gcd c b) * (d / Nat.gcd a d) : Nat) : Int)) := by
  refine VP.has h ?_
  have k01 : ([0] : List Nat) ≠ [1] := by decide
  have k02 : ([0] : List Nat) ≠ [2] := by decide
  have k12 : ([1] : List Nat) ≠ [2] := by decide
  have hRV : ∀ x y : Int, (AV.agg [.bool (decide (x < 0)), W x.natAbs, .bool (decide (y < 0)), W y.natAbs]) = RV x y := fun _ _ => rfl
  have hwc : wlen c ≠ 0 := fun e => hc0 (wlen_pos_iff.1 e)
  have dc : decide ((wlen c : Int) = 0) = false := dec_false (by omega)
  simp only [w_setsquareref02_Mul, SS, Nat.reduceAdd, reduceIte, RV_one, zeroR_one, load_skip k01, load_skip k02, load_skip k12, load_put, RV_q0, W_len, abs_nat]
  by_cases ha0 : a = 0
  · have da : decide ((wlen a : Int) = 0) = true := dec_true (by have := wlen_pos_iff.2 ha0; omega)
    rw [if_pos ha0]
    simp only [SS, Nat.reduceAdd, reduceIte, da]
    refine vsCall_VP hf (by simp [PureAV.int]) ?_
    simp only [SS, Nat.reduceAdd, reduceIte]
    rw [store_RV' (k := (AV.agg [.bool false, .nils, .bool false, .nils]).size) (by simp [Store.put])]
    simp only [SS, Nat.reduceAdd, reduceIte]
    refine retQ_ret ▸ retQ_of_pure (r := RV 0 1) ?_ (RV_pure _ _)
    simp only [RS, outAV, resAV, load_put]
    rfl
  have da : decide ((wlen a : Int) = 0) = false := dec_false (by have : wlen a ≠ 0 := fun e => ha0 (wlen_pos_iff.1 e); omega)
  rw [if_neg ha0]
  simp only [SS, Nat.reduceAdd, reduceIte, da, load_skip k01, load_skip k02, load_skip k12, load_put, RV_q0, RV_p2, W_len, abs_nat, dc]
  refine vsCall_VP (ho b) (by simp [IV_pure]) ?_
  have m0 : ([0] : List Nat) ≠ [33] := by decide
  have m1 : ([1] : List Nat) ≠ [33] := by decide
  have n0 : ([0] : List Nat) ≠ [34] := by decide
  have n1 : ([1] : List Nat) ≠ [34] := by decide
  have mn : ([33] : List Nat) ≠ [34] := by decide
  by_cases hbone : decide ((b : Int) = 1) = true
  · simp only [SS, Nat.reduceAdd, reduceIte, hbone, load_skip k01, load_skip k02, load_skip k12, load_put, RV_p2]
    first
    | refine vsCall_VP (ho d) (by simp [IV_pure]) ?_
      by_cases hd : d = 1
      · have d2 : decide ((d : Int) = 1) = true := dec_true (by omega)
        have hb1 : b = 1 := by have : (b : Int) = 1 := by simpa using hbone
                               omega
        rw [if_pos ⟨hb1, hd⟩]
        simp only [SS, DD, Nat.reduceAdd, reduceIte, d2, load_skip k01, load_skip k02, load_skip k12, load_put, RV_p0, RV_p2]
        refine vdCall_VP (hm a c (Nat.le_refl _) (Nat.le_refl _)) (by simp [IV_pure]) ?_
        simp only [SS, DD, Nat.reduceAdd, reduceIte, load_skip k01, load_skip k02, load_skip k12, load_put, RV_p0, RV_p2, fill_RV, hRV]
        rw [store_RV' (k := (AV.agg [.bool false, .nils, .bool false, .nils]).size) (by simp [Store.put])]
        simp only [SS, DD, Nat.reduceAdd, reduceIte]
        refine ⟨by simp [allApart, apart], ?_⟩
        refine retQ_ret ▸ retQ_of_pure (r := RV ((a * c : Nat) : Int) (b : Int)) ?_ (RV_pure _ _)
        simp only [RS, outAV, resAV, load_put]
        rfl
      have d2 : decide ((d : Int) = 1) = false := dec_false (by omega)
      rw [if_neg (fun e => hd e.2)]
      simp only [SS, DD, Nat.reduceAdd, reduceIte, d2, load_skip k01, load_skip k02, load_skip k12, load_put, RV_p0, RV_p2]
    | have hb1 : b ≠ 1 := by have : (b : Int) ≠ 1 := by simpa using hbone
                             omega
      rw [if_neg (fun e => hb1 e.1)]
      simp only [SS, DD, Nat.reduceAdd, reduceIte, load_skip k01, load_skip k02, load_skip k12, load_put, RV_p0, RV_p2]
    refine vdCall_VP hg1 (by simp [IV_pure]) ?_
    simp only [SS, DD, Nat.reduceAdd, reduceIte, load_skip k01, load_skip k02, load_skip k12, load_put, RV_p0, RV_p2]
    refine vdCall_VP hg2 (by simp [IV_pure]) ?_
    simp only [SS, DD, Nat.reduceAdd, reduceIte, zeroI_one]
    rw [store_IV' (k := (AV.agg [.bool false, .nils]).size) (y := .agg [.bool false, .nils]) rfl (Z_upd _) (by simp [Store.put])]
    simp only [SS, DD, Nat.reduceAdd, reduceIte]
    rw [store_IV' (k := (AV.agg [.bool false, .nils]).size) (y := .agg [.bool false, .nils]) rfl (Z_upd _) (by simp [Store.put])]
    simp only [SS, DD, Nat.reduceAdd, reduceIte]
    refine ⟨by simp [allApart, apart], ?_⟩
    simp only [SS, DD, Nat.reduceAdd, reduceIte, load_skip k01, load_skip k02, load_skip k12, load_skip m0, load_skip m1, load_skip n0, load_skip n1, load_skip mn, load_put, RV_p0, RV_p2, IV_all]
    refine vdCall_VP (hq a _ (.inl rfl) (.inl rfl)) (by simp [IV_pure]) ?_
    simp only [SS, DD, Nat.reduceAdd, reduceIte, load_skip k01, load_skip k02, load_skip k12, load_skip m0, load_skip m1, load_skip n0, load_skip n1, load_skip mn, load_put, RV_p0, RV_p2, IV_all]
    refine vdCall_VP (hq c _ (.inr (.inr (.inl rfl))) (.inr rfl)) (by simp [IV_pure]) ?_
    simp only [SS, DD, Nat.reduceAdd, reduceIte]
    refine vdCall_VP (hm (a / Nat.gcd a d) (c / Nat.gcd c b) (Nat.div_le_self _ _) (Nat.div_le_self _ _)) (by simp [IV_pure]) ?_
    simp only [SS, DD, Nat.reduceAdd, reduceIte, load_skip k01, load_skip k02, load_skip k12, load_skip m0, load_skip m1, load_skip n0, load_skip n1, load_skip mn, load_put, RV_p0, RV_p2, IV_all]
    refine vdCall_VP (hq b _ (.inr (.inl rfl)) (.inr rfl)) (by simp [IV_pure]) ?_
    simp only [SS, DD, Nat.reduceAdd, reduceIte, load_skip k01, load_skip k02, load_skip k12, load_skip m0, load_skip m1, load_skip n0, load_skip n1, load_skip mn, load_put, RV_p0, RV_p2, IV_all]
    refine vdCall_VP (hq d _ (.inr (.inr (.inr rfl))) (.inl rfl)) (by simp [IV_pure]) ?_
    simp only [SS, DD, Nat.reduceAdd, reduceIte]
    refine vdCall_VP (hm2 (b / Nat.gcd c b) (d / Nat.gcd a d) (Nat.div_le_self _ _) (Nat.div_le_self _ _)) (by simp [IV_pure]) ?_
    simp only [SS, DD, Nat.reduceAdd, reduceIte, fill_RV, hRV]
    rw [store_RV' (k := (AV.agg [.bool false, .nils, .bool false, .nils]).size) (by simp [Store.put])]
    simp only [SS, DD, Nat.reduceAdd, reduceIte]
    refine ⟨by simp [allApart, apart], ?_⟩
    refine retQ_ret ▸ retQ_of_pure (r := RV (((a / Nat.gcd a d) * (c / Nat.gcd c b) : Nat) : Int) (((b / Nat.gcd c b) * (d / Nat.gcd a d) : Nat) : Int)) ?_ (RV_pure _ _)
    simp only [RS, outAV, resAV, load_put]
    rfl
  by_cases hbmore : decide ((b : Int) = 1) = false
  · simp only [SS, Nat.reduceAdd, reduceIte, hbmore, load_skip k01, load_skip k02, load_skip k12, load_put, RV_p2]
    first
    | refine vsCall_VP (ho d) (by simp [IV_pure]) ?_
      by_cases hd : d = 1
      · have d2 : decide ((d : Int) = 1) = true := dec_true (by omega)
        have hb1 : b = 1 := by have : (b : Int) = 1 := by simpa using hbmore
                               omega
        rw [if_pos ⟨hb1, hd⟩]
        simp only [SS, DD, Nat.reduceAdd, reduceIte, d2, load_skip k01, load_skip k02, load_skip k12, load_put, RV_p0, RV_p2]
        refine vdCall_VP (hm a c (Nat.le_refl _) (Nat.le_refl _)) (by simp [IV_pure]) ?_
        simp only [SS, DD, Nat.reduceAdd, reduceIte, load_skip k01, load_skip k02, load_skip k12, load_put, RV_p0, RV_p2, fill_RV, hRV]
        rw [store_RV' (k := (AV.agg [.bool false, .nils, .bool false, .nils]).size) (by simp [Store.put])]
        simp only [SS, DD, Nat.reduceAdd, reduceIte]
        refine ⟨by simp [allApart, apart], ?_⟩
        refine retQ_ret ▸ retQ_of_pure (r := RV ((a * c : Nat) : Int) (b : Int)) ?_ (RV_pure _ _)
        simp only [RS, outAV, resAV, load_put]
        rfl
      have d2 : decide ((d : Int) = 1) = false := dec_false (by omega)
      rw [if_neg (fun e => hd e.2)]
      simp only [SS, DD, Nat.reduceAdd, reduceIte, d2, load_skip k01, load_skip k02, load_skip k12, load_put, RV_p0, RV_p2]
    | have hb1 : b ≠ 1 := by have : (b : Int) ≠ 1 := by simpa using hbmore
                             omega
      rw [if_neg (fun e => hb1 e.1)]
      simp only [SS, DD, Nat.reduceAdd, reduceIte, load_skip k01, load_skip k02, load_skip k12, load_put, RV_p0, RV_p2]
    refine vdCall_VP hg1 (by simp [IV_pure]) ?_
    simp only [SS, DD, Nat.reduceAdd, reduceIte, load_skip k01, load_skip k02, load_skip k12, load_put, RV_p0, RV_p2]
    refine vdCall_VP hg2 (by simp [IV_pure]) ?_
    simp only [SS, DD, Nat.reduceAdd, reduceIte, zeroI_one]
    rw [store_IV' (k := (AV.agg [.bool false, .nils]).size) (y := .agg [.bool false, .nils]) rfl (Z_upd _) (by simp [Store.put])]
    simp only [SS, DD, Nat.reduceAdd, reduceIte]
    rw [store_IV' (k := (AV.agg [.bool false, .nils]).size) (y := .agg [.bool false, .nils]) rfl (Z_upd _) (by simp [Store.put])]
    simp only [SS, DD, Nat.reduceAdd, reduceIte]
    refine ⟨by simp [allApart, apart], ?_⟩
    simp only [SS, DD, Nat.reduceAdd, reduceIte, load_skip k01, load_skip k02, load_skip k12, load_skip m0, load_skip m1, load_skip n0, load_skip n1, load_skip mn, load_put, RV_p0, RV_p2, IV_all]
    refine vdCall_VP (hq a _ (.inl rfl) (.inl rfl)) (by simp [IV_pure]) ?_
    simp only [SS, DD, Nat.reduceAdd, reduceIte, load_skip k01, load_skip k02, load_skip k12, load_skip m0, load_skip m1, load_skip n0, load_skip n1, load_skip mn, load_put, RV_p0, RV_p2, IV_all]
    refine vdCall_VP (hq c _ (.inr (.inr (.inl rfl))) (.inr rfl)) (by simp [IV_pure]) ?_
    simp only [SS, DD, Nat.reduceAdd, reduceIte]
    refine vdCall_VP (hm (a / Nat.gcd a d) (c / Nat.gcd c b) (Nat.div_le_self _ _) (Nat.div_le_self _ _)) (by simp [IV_pure]) ?_
    simp only [SS, DD, Nat.reduceAdd, reduceIte, load_skip k01, load_skip k02, load_skip k12, load_skip m0, load_skip m1, load_skip n0, load_skip n1, load_skip mn, load_put, RV_p0, RV_p2, IV_all]
    refine vdCall_VP (hq b _ (.inr (.inl rfl)) (.inr rfl)) (by simp [IV_pure]) ?_
    simp only [SS, DD, Nat.reduceAdd, reduceIte, load_skip k01, load_skip k02, load_skip k12, load_skip m0, load_skip m1, load_skip n0, load_skip n1, load_skip mn, load_put, RV_p0, RV_p2, IV_all]
    refine vdCall_VP (hq d _ (.inr (.inr (.inr rfl))) (.inl rfl)) (by simp [IV_pure]) ?_
    simp only [SS, DD, Nat.reduceAdd, reduceIte]
    refine vdCall_VP (hm2 (b / Nat.gcd c b) (d / Nat.gcd a d) (Nat.div_le_self _ _) (Nat.div_le_self _ _)) (by simp [IV_pure]) ?_
    simp only [SS, DD, Nat.reduceAdd, reduceIte, fill_RV, hRV]
    rw [store_RV' (k := (AV.agg [.bool false, .nils, .bool false, .nils]).size) (by simp [Store.put])]
    simp only [SS, DD, Nat.reduceAdd, reduceIte]
    refine ⟨by simp [allApart, apart], ?_⟩
    refine retQ_ret ▸ retQ_of_pure (r := RV (((a / Nat.gcd a d) * (c / Nat.gcd c b) : Nat) : Int) (((b / Nat.gcd c b) * (d / Nat.gcd a d) : Nat) : Int)) ?_ (RV_pure _ _)
    simp only [RS, outAV, resAV, load_put]
    rfl
  exfalso; cases hd : decide ((b : Int) = 1) <;> simp_all
end
end Go.VL
end

section
namespace Go.VL
open Go.Lib
def pk : Nat → Nat → List UInt8
  | 0, _ => []
  | k + 1, r => pk k (r / 10) ++ [UInt8.ofNat (48 + r % 10)]
theorem dd_small {n : Nat} (h : n < 10) : decDigits n = [UInt8.ofNat (48 + n)] := decDigits_one h
theorem dd_big {n : Nat} (h : ¬ n < 10) : decDigits n = decDigits (n / 10) ++ [UInt8.ofNat (48 + n % 10)] := by rw [decDigits, dif_neg h]
theorem dd_split (k : Nat) : ∀ {n : Nat}, 10 ^ k ≤ n → 0 < k → decDigits n = decDigits (n / 10 ^ k) ++ pk k (n % 10 ^ k) := by
  induction k with
  | zero => intro n _ h; omega
  | succ k ih =>
    intro n h _
    have h10 : 10 ≤ n := by
      have : 0 < 10 ^ k := Nat.pow_pos (by decide)
      rw [Nat.pow_succ] at h; omega
    rw [dd_big (by omega)]
    have e1 : n % 10 ^ (k + 1) / 10 = n / 10 % 10 ^ k := by rw [Nat.pow_succ, Nat.mul_comm, Nat.mod_mul_right_div_self]
    have e2 : n % 10 ^ (k + 1) % 10 = n % 10 := by rw [Nat.pow_succ, Nat.mul_comm, Nat.mod_mul_right_mod]
    have e3 : n / 10 ^ (k + 1) = n / 10 / 10 ^ k := by rw [Nat.pow_succ, Nat.mul_comm, Nat.div_div_eq_div_mul]
    simp only [pk]
    rw [e1, e2, e3, ← List.append_assoc]
    congr 1
    rcases Nat.eq_zero_or_pos k with hk | hk
    · subst hk; simp [pk]
    · refine ih ?_ hk
      rw [Nat.pow_succ, Nat.mul_comm] at h
      exact (Nat.le_div_iff_mul_le (by decide)).2 (by rw [Nat.mul_comm]; exact h)
theorem nd_le {k : Nat} : ∀ {r : Nat}, 0 < k → r < 10 ^ k → nDigits r ≤ k := by
  induction k with
  | zero => intro r h; omega
  | succ k ih =>
    intro r _ h
    by_cases hr : r < 10
    · rw [nDigits_small hr]; omega
    · rw [nDigits_big hr]
      have hk : 0 < k := by
        rcases Nat.eq_zero_or_pos k with e | e
        · subst e; simp at h; omega
        · exact e
      have := ih (r := r / 10) hk (by rw [Nat.pow_succ] at h; exact Nat.div_lt_of_lt_mul (by rw [Nat.mul_comm]; exact h))
      omega
theorem pk_zero (k : Nat) : pk k 0 = List.replicate k 48 := by
  induction k with
  | zero => rfl
  | succ k ih => simp only [pk, Nat.zero_div, Nat.zero_mod]; rw [ih, List.replicate_succ']; rfl
theorem pk_eq (k : Nat) : ∀ {r : Nat}, 0 < k → r < 10 ^ k → pk k r = List.replicate (k - nDigits r) 48 ++ decDigits r := by
  induction k with
  | zero => intro r h; omega
  | succ k ih =>
    intro r _ h
    simp only [pk]
    by_cases hr : r < 10
    · rw [nDigits_small hr, dd_small hr, Nat.div_eq_of_lt hr, Nat.mod_eq_of_lt hr]
      rw [pk_zero, Nat.add_sub_cancel]
    · have hk : 0 < k := by
        rcases Nat.eq_zero_or_pos k with e | e
        · subst e; simp at h; omega
        · exact e
      have hlt : r / 10 < 10 ^ k := by rw [Nat.pow_succ] at h; exact Nat.div_lt_of_lt_mul (by rw [Nat.mul_comm]; exact h)
      rw [ih hk hlt, nDigits_big hr, dd_big hr, ← List.append_assoc]
      congr 3; omega
end Go.VL
end

section
set_option linter.unusedSimpArgs false
namespace Go.VL
open Go.Lib
theorem nd_wlen (n : Nat) (hn : n ≠ 0) : (decDigits n).length ≤ 10 * wlen n := by
  rw [decDigits_length]
  have h1 := lt_pow_wlen n
  have h2 : B32 ^ wlen n ≤ (10 ^ 10) ^ wlen n := Nat.pow_le_pow_left (by decide) _
  rw [← Nat.pow_mul] at h2
  have hw : wlen n ≠ 0 := fun e => hn (wlen_pos_iff.1 e)
  exact nd_le (by omega) (Nat.lt_of_lt_of_le h1 h2)
theorem str_add {a b : List UInt8} (h : (a ++ b).length ≤ maxLen) : vbinq .add .str (.str a) (.str b) = some (.str (a ++ b)) := by
  have h' : a.length + b.length ≤ maxLen := by rw [← List.length_append]; exact h
  simp [vbinq, vbin, vstr, h']
theorem bytes1 {σ : Store} {q : Id} {x : Nat} (_hx : x < 256) : vbytesStr (σ.put q (some ⟨[.int .u8 (x : Int)], 1, false⟩)) (.osl q 1 0 1 false) = some { val := .str [UInt8.ofNat x], rd := [q] } := by
  simp [vbytesStr, elemsOf, Store.put, bytesOf]
theorem bs_byte {σ : Store} {q : Id} {x : Nat} : vop σ q (.buildSl 1 1 (.int .u8 0) [(0, .int .u8 (x : Int))]) = some { val := .osl q 1 0 1 false, up := [(q, some ⟨[.int .u8 (x : Int)], 1, false⟩)] } := bs1 rfl rfl rfl rfl
section
variable {P : Program} {G : Nat → Option (List AV)}
theorem rformat_ok {f fn fb : FuncId} (h : Has P f (w_setsquareref01_Format fn fb)) (hn : ∀ z : Int, wlen z.natAbs ≤ 1000000 → VP P G fn [IV z] (IV z))
    (hby : ∀ m w : Nat, wlen m ≤ 1000000 → w < B32 → w ≠ 0 → VP P G fb [W m, .int .u32 (w : Int)] (.tup [W (m / w), .int .u32 ((m % w : Nat) : Int)])) (n : Nat) (hw : wlen n ≤ 1000000) : VP P G f [IV (n : Int)] (.str (decDigits n)) := by
  refine VP.has h ?_
  simp only [w_setsquareref01_Format, SS, Nat.reduceAdd, reduceIte, IV_one, load_put, IV_all]
  refine vsCall_VP (hn n (by rw [abs_nat]; exact hw)) (by simp [IV_pure]) ?_
  simp only [SS, Nat.reduceAdd, reduceIte]
  rw [store_IV' (k := (IV (n : Int)).size) (y := IV (n : Int)) rfl (IV_upd _ _) (by simp [Store.put])]
  simp only [SS, Nat.reduceAdd, reduceIte, load_put, IV_p1, abs_nat, vwp_loop]
  refine VW.loopQ (α := Nat × List UInt8 × Nat) (fun x => ⟨[.top, .ref [0] 0 0, .top, .str x.2.1, W x.1] ++ List.replicate 29 .top,
    Store.put (fun _ => none) [0] (some ⟨[IV (n : Int)], (IV (n : Int)).size, false⟩), x.2.2⟩)
    (fun x => wlen x.1 ≤ wlen n ∧ (x.1 ≠ 0 → n ≠ 0) ∧ (if x.1 = 0 then (if n = 0 then x.2.1 = [] else x.2.1 = decDigits n) else decDigits n = decDigits x.1 ++ x.2.1)) (fun x => x.1) (n, [], 1000) ?_ ?_ ?_
  · exact Wk.forget (by simp [Fg, List.replicate]) (fun j => by simp only [Store.put]; split <;> simp_all) (by simp only []; omega)
  · refine ⟨Nat.le_refl _, fun h => h, ?_⟩
    simp only []
    by_cases h0 : n = 0
    · rw [if_pos h0, if_pos h0]; trivial
    · rw [if_neg h0, List.append_nil]
  rintro ⟨m, s, nn⟩ ⟨hm, hmn, hs⟩
  simp only [] at hm hmn hs
  by_cases h0 : m = 0
  · rw [if_pos h0] at hs
    have d0 : decide ((0 : Int) < (wlen m : Int)) = false := dec_false (by have := wlen_pos_iff.2 h0; omega)
    by_cases hn0 : n = 0
    · rw [if_pos hn0] at hs
      subst hs
      have e : decDigits n = [48] := by rw [hn0, dd_small (by decide)]; rfl
      have ds : (([] : List UInt8) == []) = true := by decide
      rw [e]
      simp only [SS, Nat.reduceAdd, reduceIte, W_len, d0, ds]
      exact retQ_ret ▸ retQ_of_pure rfl (PureAV.str _)
    · rw [if_neg hn0] at hs
      have hne : s ≠ [] := by
        rw [hs]; intro e
        have := congrArg List.length e
        rw [decDigits_length] at this
        by_cases hr : n < 10
        · rw [nDigits_small hr] at this; simp at this
        · rw [nDigits_big hr] at this; simp at this
      have ds : (s == []) = false := by simpa using hne
      rw [← hs]
      simp only [SS, Nat.reduceAdd, reduceIte, W_len, d0, ds, load_put, IV_p0, not_neg]
      exact retQ_ret ▸ retQ_of_pure rfl (PureAV.str _)
  · rw [if_neg h0] at hs
    have d0 : decide ((0 : Int) < (wlen m : Int)) = true := dec_true (by have : wlen m ≠ 0 := fun e => h0 (wlen_pos_iff.1 e); omega)
    have hb := hby m 10 (by omega) (by decide) (by decide)
    have hr : m % 10 < 10 := Nat.mod_lt _ (by decide)
    have f1 : IntKind.u32.wrap (48 + ((m % 10 : Nat) : Int)) = ((48 + m % 10 : Nat) : Int) := by rw [IntKind.wrap_u32]; omega
    have f2 : IntKind.u8.wrap ((48 + m % 10 : Nat) : Int) = ((48 + m % 10 : Nat) : Int) := by rw [IntKind.wrap_u8]; omega
    have hlt : m / 10 < m := Nat.div_lt_self (Nat.pos_of_ne_zero h0) (by decide)
    have hwm : wlen (m / 10) ≤ wlen n := Nat.le_trans (wlen_mono (Nat.div_le_self _ _)) hm
    have hnew : (if m / 10 = 0 then (if n = 0 then [UInt8.ofNat (48 + m % 10)] ++ s = [] else [UInt8.ofNat (48 + m % 10)] ++ s = decDigits n) else decDigits n = decDigits (m / 10) ++ ([UInt8.ofNat (48 + m % 10)] ++ s)) := by
      by_cases hq : m / 10 = 0
      · have hm10 : m < 10 := by omega
        rw [if_pos hq]
        rw [dd_small hm10] at hs
        rw [if_neg (hmn h0), Nat.mod_eq_of_lt hm10]; exact hs.symm
      · rw [if_neg hq]
        rw [dd_big (n := m) (by omega)] at hs
        rw [hs]; simp
    have hn0 := hmn h0
    have hsl : ([UInt8.ofNat (48 + m % 10)] ++ s).length ≤ maxLen := by
      have h1 := nd_wlen n hn0
      have h2 := congrArg List.length hs
      rw [List.length_append, decDigits_length m] at h2
      have h3 : 1 ≤ nDigits m := by
        by_cases hr : m < 10
        · rw [nDigits_small hr]; exact Nat.le_refl _
        · rw [nDigits_big hr]; omega
      refine le_maxLen ?_
      rw [List.length_append]; simp; omega
    have hsa : vbinq .add .str (.str [UInt8.ofNat (48 + m % 10)]) (.str s) = some (.str ([UInt8.ofNat (48 + m % 10)] ++ s)) := str_add hsl
    simp only [SS, Nat.reduceAdd, reduceIte, W_len, d0]
    refine vsCall_VP hb (by simp [W_pure, PureAV.int]) ?_
    simp only [SS, Nat.reduceAdd, reduceIte, tup2_0, tup2_1, f1, f2, bs_byte, bytes1 (show 48 + m % 10 < 256 by omega), hsa]
    refine ⟨(m / 10, [UInt8.ofNat (48 + m % 10)] ++ s, _), ⟨hwm, fun _ => hn0, hnew⟩, hlt, Wk.forget (by simp [Fg, List.replicate]) (fun j => ?_) (Nat.le_refl _)⟩
    simp only [Store.put]
    by_cases e : j = [0]
    · subst e; right
      simp
    · left; simp [e]
end
end Go.VL
end

section
namespace Go.Proofs
open Go.VL Go.RowKit
def intsN (ws : List Nat) : List Int := ws.map fun w : Nat => (w : Int)
theorem intsN_len (ws : List Nat) : (intsN ws).length = ws.length := List.length_map ..
theorem bits_or64 (a b : Nat) (ha : a < 18446744073709551616) (hb : b < 18446744073709551616) : bits BinOp.or IntKind.u64 (a : Int) (b : Int) = ((a ||| b : Nat) : Int) := by
  have h := or64 a b ha hb
  rw [bin_or] at h
  simp only [Option.some.injEq, AV.int.injEq, true_and] at h
  rw [← h]; rfl
theorem Tryz.stepU_word (r a : Nat) (hr : r < B32) (ha : a < B32) : Tryz.stepU (r : Int) (a : Int) = ((B32 * r + a : Nat) : Int) := by
  unfold Tryz.stepU
  have h1 : IntKind.u64.wrap ((r : Int) * 4294967296) = ((B32 * r : Nat) : Int) := by rw [IntKind.wrap_u64]; unfold B32 at *; omega
  rw [h1, w64_word a ha, bits_or64 _ _ (by unfold B32 at *; omega) (by unfold B32 at *; omega)]
  have := Nat.two_pow_add_eq_or_of_lt (i := 32) (b := a) (by unfold B32 at ha; omega) r
  rw [show B32 = 2 ^ 32 from rfl, this]
theorem Tryz.toU_digits (n : Nat) (hn : n < 18446744073709551616) : Tryz.toU (Tryz.upto (Tryz.bw (intsN (digits n))) (intsN (digits n)).length) = (n : Int) := by
  have hw := wlen_small n hn
  have hd := digits_wd n
  have hv := val_digits n
  unfold wlen at hw
  generalize digits n = ds at hw hd hv
  match ds, hw, hd, hv with
  | [], _, _, hv => subst hv; rfl
  | [a], _, hd, hv =>
    have ha := hd a (by simp)
    have e := Tryz.stepU_word 0 a B32_pos ha
    simp only [val, Nat.mul_zero, Nat.add_zero] at hv
    have : (n : Int) = ((B32 * 0 + a : Nat) : Int) := by omega
    rw [this, ← e]; rfl
  | [a, b], _, hd, hv =>
    have ha := hd a (by simp)
    have hb := hd b (by simp)
    have e1 := Tryz.stepU_word 0 b B32_pos hb
    rw [Nat.mul_zero, Nat.zero_add] at e1
    have e2 := Tryz.stepU_word b a hb ha
    simp only [val, Nat.mul_zero, Nat.add_zero] at hv
    have : (n : Int) = ((B32 * b + a : Nat) : Int) := by omega
    rw [this, ← e2]
    show Tryz.stepU (Tryz.stepU 0 (b : Int)) (a : Int) = _
    have e3 : Tryz.stepU 0 (b : Int) = (b : Int) := e1
    rw [e3]
  | _ :: _ :: _ :: _, hw, _, _ => simp at hw
theorem Tryz.toUint_vp (G : Nat → Option (List AV)) (n : Nat) (hn : n < 18446744073709551616) : VP Tryz.prog G 165 [W n] (.int .u64 (n : Int)) := by
  refine VP.of_call (r := { val := .int .u64 (n : Int) }) (CallRel.of_below Tryz.func165 (by kernel_rfl) (by kernel_rfl) ?_) (FlatAV.int _ _)
  intro own E w σ vs _ hi hr
  simp only [RepL] at hr
  obtain ⟨v, _, rfl, hv, rfl⟩ := hr
  have hus : us (digits n) = (intsN (digits n)).map (AV.int .u32) := by simp [us, intsN]
  have hel : elemsOf σ 1 (W n) = some ((intsN (digits n)).map (AV.int .u32), []) := by rw [W, elemsOf_sl, hus]
  obtain ⟨a, cap, rfl, hle, hrow⟩ := ints_row hi hv hel
  have hI : Tryz.U32s w.heap.size w (.slice a (intsN (digits n)).length cap) (intsN (digits n)) := by
    rcases hrow with h | ⟨b, o, rfl, hb, hc⟩
    · rw [h]; exact .inl ⟨a, cap, rfl, rfl⟩
    · exact .inr ⟨b, o, cap, rfl, hb, hc⟩
  have hlen : (intsN (digits n)).length ≤ 2 := by rw [intsN_len]; exact wlen_small n hn
  refine (callsIn_wide (n := 3)).1 ((Tryz.toUint_in Fence.wide 3 trivial trivial trivial rfl (by omega) a _ cap _ (by omega) w hI).mono ?_)
  rintro e W' ⟨rfl, hB⟩
  rw [Tryz.toU_digits n hn]
  exact ⟨_, rfl, hB, fun E w => by simp only [Rep]⟩
end Go.Proofs
end

section
set_option linter.unusedSimpArgs false
set_option maxRecDepth 100000
namespace Go.VL
open Go.Lib
def w_fmtLoop (f_trim : Nat) : VCode := (.block 0 (.loop (.seq (.seq (.reg none [⟨(some 18), (.mv (.t 3)), none⟩, ⟨(some 19), (.len false (.t 18)), none⟩, ⟨(some 20), (.bin .gtr .int (.t 19) (.c (.int .i64 (0)))), none⟩]) (.cond (.t 20) .skip (.exit 0))) (.block 1 (.seq (.reg none [⟨(some 5), (.mv (.c (.int .u64 (0)))), none⟩]) (.seq (.seq (.reg none [⟨(some 21), (.mv (.t 3)), none⟩, ⟨(some 22), (.len false (.t 21)), none⟩, ⟨(some 23), (.bin .sub .int (.t 22) (.c (.int .i64 (1)))), none⟩, ⟨(some 6), (.mv (.t 23)), none⟩]) (.block 2 (.loop (.seq (.seq (.reg none [⟨(some 24), (.mv (.t 6)), none⟩, ⟨(some 25), (.bin .geq .int (.t 24) (.c (.int .i64 (0)))), none⟩]) (.cond (.t 25) .skip (.exit 2))) (.seq (.block 3 (.seq (.reg none [⟨(some 28), (.mv (.t 5)), none⟩, ⟨(some 29), (.bin .shl .int (.t 28) (.c (.int .u64 (32)))), none⟩, ⟨(some 30), (.mv (.t 3)), none⟩, ⟨(some 31), (.mv (.t 6)), none⟩, ⟨(some 32), (.iaddrS 1 (.t 30) (.t 31)), none⟩, ⟨(some 33), (.load false 1 (.t 32)), none⟩, ⟨(some 34), (.toInt .u64 (.t 33)), none⟩, ⟨(some 35), (.bin .or .int (.t 29) (.t 34)), none⟩, ⟨(some 5), (.mv (.t 35)), none⟩]) (.seq (.reg none [⟨(some 36), (.mv (.t 3)), none⟩, ⟨(some 37), (.mv (.t 6)), none⟩, ⟨(some 38), (.mv (.t 5)), none⟩, ⟨(some 39), (.bin .quo .int (.t 38) (.c (.int .u64 (1000000000)))), none⟩, ⟨(some 40), (.toInt .u32 (.t 39)), none⟩, ⟨(some 41), (.iaddrS 1 (.t 36) (.t 37)), none⟩, ⟨none, (.store 1 (.t 41) (.t 40)), none⟩]) (.reg none [⟨(some 42), (.mv (.t 5)), none⟩, ⟨(some 43), (.bin .rem .int (.t 42) (.c (.int .u64 (1000000000)))), none⟩, ⟨(some 5), (.mv (.t 43)), none⟩])))) (.reg none [⟨(some 26), (.mv (.t 6)), none⟩, ⟨(some 27), (.bin .sub .int (.t 26) (.c (.int .i64 (1)))), none⟩, ⟨(some 6), (.mv (.t 27)), none⟩])))))) (.seq (.reg none [⟨(some 44), (.mv (.t 3)), none⟩, ⟨(some 45), (.call (.f f_trim) [(.t 44)]), none⟩, ⟨(some 3), (.mv (.t 45)), none⟩]) (.reg none [⟨(some 46), (.load false 1 (.t 4)), none⟩, ⟨(some 47), (.mv (.t 5)), none⟩, ⟨(some 48), (.toInt .u32 (.t 47)), none⟩, ⟨(some 49), (.buildSl 1 1 (.int .u32 (0)) [(0, (.t 48))]), none⟩, ⟨(some 50), (.append 1 4 (.t 46) (.t 49)), none⟩, ⟨none, (.store 1 (.t 4) (.t 50)), none⟩]))))))))
def padall : List Nat → List UInt8
  | [] => []
  | c :: cs => padall cs ++ pk 9 c
theorem padall_snoc (cs : List Nat) (r : Nat) : padall (cs ++ [r]) = pk 9 r ++ padall cs := by
  induction cs with
  | nil => simp [padall]
  | cons c cs ih => simp only [List.cons_append, padall]; rw [ih, List.append_assoc]
def FmtI (n m : Nat) (cs : List Nat) : Prop := (m ≠ 0 → decDigits n = decDigits m ++ padall cs) ∧ (m = 0 → ∃ cs' r, cs = cs' ++ [r] ∧ decDigits n = decDigits r ++ padall cs')
theorem FmtI.step {n m : Nat} {cs : List Nat} (h : FmtI n m cs) (hm : m ≠ 0) : FmtI n (m / 1000000000) (cs ++ [m % 1000000000]) := by
  have h1 := h.1 hm
  constructor
  · intro hq
    have hge : 10 ^ 9 ≤ m := by
      rcases Nat.lt_or_ge m (10 ^ 9) with e | e
      · exact absurd (Nat.div_eq_of_lt e) hq
      · exact e
    rw [padall_snoc, h1, dd_split 9 hge (by decide), List.append_assoc]
  · intro hq
    have hlt : m < 1000000000 := by omega
    exact ⟨cs, m % 1000000000, rfl, by rw [Nat.mod_eq_of_lt hlt]; exact h1⟩
def chv (ck : Nat) (cs : List Nat) : AV := if cs = [] then .nils else .osl [ck] 1 0 cs.length false
theorem take_set {ds q t : List Nat} {j x : Nat} (hj : j < ds.length) : (ds.take (j + 1) ++ q ++ t).set j x = ds.take j ++ (x :: q) ++ t := by
  have h1 : (ds.take j).length = j := by rw [List.length_take]; omega
  obtain ⟨y, hy⟩ : ∃ y, ds[j]? = some y := ⟨_, List.getElem?_eq_getElem hj⟩
  have e : ds.take (j + 1) = ds.take j ++ [y] := by
    have := List.take_add_one (l := ds) (i := j)
    rw [hy] at this; simpa using this
  rw [e, List.append_assoc, List.append_assoc, List.set_append_right _ _ (by omega), h1, Nat.sub_self]
  simp
theorem take_get {ds q t : List Nat} {j a : Nat} (h : ds[j]? = some a) : (ds.take (j + 1) ++ q ++ t)[j]? = some a := by
  have hj := (List.getElem?_eq_some_iff.1 h).1
  rw [List.append_assoc, List.getElem?_append_left (by rw [List.length_take]; omega), List.getElem?_take_of_lt (by omega)]; exact h
theorem store_cell {σ : Store} {id : Id} {y v : AV} (hy : y.size = 1) (hu : ∀ v, y.upd 0 [v] = v) (hv : v.cells = [v]) (h : σ id = some ⟨[y], 1, false⟩) (h1 : v.cells.all AV.one = true) : vstore σ 1 (.ref id 0 0) v = some { val := .tup [], rd := [id], up := [(id, some ⟨[v], 1, false⟩)] } := by
  rw [vstore_at (n := 1) (v := v) (els := [y]) (k := 1) h rfl (by rw [hv]; rfl) (by rw [hy]; exact Nat.le_refl _) h1, hv, hu]
  rfl
section
variable {P : Program} {G : Nat → Option (List AV)}
theorem cloneO_ok {f : FuncId} (h : Has P f w_slices_Clone_Luint32_uint32) (n : Nat) (hn0 : n ≠ 0) (hn : wlen n ≤ 1000000) (p : Id) :
    CallRel P G f [W n] p [] { val := .osl (5 :: p) 1 0 (wlen n) false, up := [(5 :: p, some ⟨us (digits n), 1, false⟩)] } := by
  refine CallRel.has h ?_
  have hb : ∀ (σ : Store) (p : Id), vop σ p (.buildSl 1 0 (.int .u32 0) []) = some { val := .tsl 1 [] } := fun σ p => bs0 rfl rfl
  have hne : us (digits n) ≠ [] := by
    intro e
    have := congrArg List.length e
    rw [us_len] at this
    exact hn0 (wlen_pos_iff.1 this)
  have hnil : ∀ es : List AV, es ≠ [] → vbinq .eql .slice (.sl 1 es) .nils = some (.bool false) := fun es h => by
    cases es with
    | nil => exact absurd rfl h
    | cons e es => rfl
  simp only [w_slices_Clone_Luint32_uint32, W, SS, Nat.reduceAdd, reduceIte, hb, hnil _ hne]
  rw [vappend_tsl (es := []) elemsOf_sl hne (by rw [us_len]; show (0 + wlen n) * 4 ≤ _; omega) (le_maxLen (by rw [us_len]; show 0 + wlen n ≤ _; omega)) (us_one _)]
  simp only [SS, Nat.reduceAdd, reduceIte]
  rw [us_len]
  refine endQ_ret ▸ endQ_of_same rfl fun i => ?_
  by_cases e : i = 5 :: p
  · subst e; right; simp [Store.app, Store.put]
  · left; simp [Store.app, Store.put, e, Store.of]
def fmtSt (n : Nat) (m : Nat) (t cs : List Nat) (ck nn : Nat) : VS := ⟨[.top, .ref [0] 0 0, .top, .osl [5, 5] 1 0 (wlen m) false, .ref [10] 0 0] ++ List.replicate 69 .top,
  Store.put (Store.put (Store.put (Store.put (fun _ => none) [0] (some ⟨[IV (n : Int)], 2, false⟩)) [10] (some ⟨[chv ck cs], 1, false⟩)) [ck] (if cs = [] then none else some ⟨us cs, 1, false⟩)) [5, 5] (some ⟨us (digits m ++ t), 1, false⟩), nn⟩
theorem fmt_loop {ft : FuncId} (htr : Has P ft w_integer_trim) (n : Nat) (hn0 : n ≠ 0) (hn : wlen n ≤ 1000000) {K : VS → Prop} {Q' : VExit → VS → Prop} {s : VS} (hs : Wk G [] s (fmtSt n n [] [] 20 1000))
    (hK : ∀ t cs' r ck nn s, Wd (cs' ++ [r]) → (∀ c ∈ cs' ++ [r], c < 1000000000) → (cs' ++ [r]).length ≤ 10000000 → decDigits n = decDigits r ++ padall cs' → 20 ≤ ck → Wk G [] s (fmtSt n 0 t (cs' ++ [r]) ck nn) → K s) :
    vwp P G [] (w_fmtLoop ft) (Then K Q') s := by
  simp only [w_fmtLoop, vwp_block, vwp_loop]
  refine VW.mono (Q := fun e s' => e = .exit 0 ∧ K s') ?_ (fun e s' h => by obtain ⟨rfl, h⟩ := h; simp only [blkd_exit, if_true, then_normal]; exact h)
  refine VW.loopQ (α := Nat × List Nat × List Nat × Nat × Nat) (fun x => fmtSt n x.1 x.2.1 x.2.2.1 x.2.2.2.1 x.2.2.2.2)
    (fun x => wlen x.1 + x.2.1.length = wlen n ∧ Wd x.2.1 ∧ Wd x.2.2.1 ∧ (∀ c ∈ x.2.2.1, c < 1000000000) ∧ FmtI n x.1 x.2.2.1 ∧ 20 ≤ x.2.2.2.1 ∧ x.2.2.2.1 < x.2.2.2.2 ∧ 1000000000 ^ x.2.2.1.length * x.1 ≤ n ∧ x.2.2.1.length ≤ 2 * wlen n + 1) (fun x => x.1) (n, [], [], 20, 1000) hs ?_ ?_
  · refine ⟨by simp, by intro w hw; simp at hw, by intro w hw; simp at hw, by intro w hw; simp at hw, ⟨fun _ => by simp [padall], fun h => absurd h hn0⟩, Nat.le_refl _, by simp, by simp, by simp⟩
  rintro ⟨m, t, cs, ck, nn⟩ ⟨hl, htW, hcW, hcb, hI, hck, hnn, hpw, hcl⟩
  simp only [] at hl htW hcW hcb hI hck hnn hpw hcl
  unfold fmtSt
  by_cases h0 : m = 0
  · subst h0
    have d0 : decide ((0 : Int) < (wlen 0 : Int)) = false := dec_false (by rw [show wlen 0 = 0 from by rw [wlen, digits_zero]; rfl]; decide)
    obtain ⟨cs', r, rfl, htxt⟩ := hI.2 rfl
    simp only [SS, Nat.reduceAdd, reduceIte, d0]
    refine ⟨trivial, hK t cs' r ck (nn + 1000) _ hcW hcb (by omega) htxt hck ?_⟩
    unfold fmtSt
    exact Wk.slots (by simp [Fg, List.replicate]) (by omega)
  have d0 : decide ((0 : Int) < (wlen m : Int)) = true := dec_true (by have : wlen m ≠ 0 := fun e => h0 (wlen_pos_iff.1 e); omega)
  have hwm : wlen m ≤ 1000000 := by omega
  have hwL : IntKind.i64.wrap ((wlen m : Int) - 1) = (wlen m : Int) - 1 := by rw [IntKind.wrap_i64]; omega
  have hcl2 : cs.length ≤ 2 * wlen n := by
    have h1 : 1000000000 ^ cs.length ≤ n := Nat.le_trans (Nat.le_mul_of_pos_right _ (Nat.pos_of_ne_zero h0)) hpw
    have h2 := lt_pow_wlen n
    have h3 : (2 ^ 29) ^ cs.length ≤ 1000000000 ^ cs.length := Nat.pow_le_pow_left (by decide) _
    rw [← Nat.pow_mul] at h3
    have h4 : B32 ^ wlen n = 2 ^ (32 * wlen n) := by rw [Nat.pow_mul]; rfl
    rw [h4] at h2
    have h5 : 2 ^ (29 * cs.length) < 2 ^ (32 * wlen n) := by omega
    have := (Nat.pow_lt_pow_iff_right (by decide : 1 < 2)).1 h5
    omega
  simp only [SS, Nat.reduceAdd, reduceIte, d0, hwL, vwp_loop]
  generalize hσb : Store.put (Store.put (Store.put (fun _ => none) [0] (some ⟨[IV (n : Int)], 2, false⟩)) [10] (some ⟨[chv ck cs], 1, false⟩)) [ck] (if cs = [] then none else some ⟨us cs, 1, false⟩) = σb
  refine VW.loopQ (α := Nat × List Nat × Nat × Nat) (fun x => ⟨[.top, .ref [0] 0 0, .top, .osl [5, 5] 1 0 (wlen m) false, .ref [10] 0 0, .int .u64 (x.2.2.1 : Int), .int .i64 ((x.1 : Int) - 1)] ++ List.replicate 67 .top,
    σb.put [5, 5] (some ⟨us ((digits m).take x.1 ++ x.2.1 ++ t), 1, false⟩), x.2.2.2⟩)
    (fun x => x.1 + x.2.1.length = wlen m ∧ Wd x.2.1 ∧ x.2.2.1 < 1000000000 ∧ val ((digits m).drop x.1) = val x.2.1 * 1000000000 + x.2.2.1 ∧ nn ≤ x.2.2.2) (fun x => x.1) (wlen m, [], 0, nn + 1000) ?_ ?_ ?_
  · rw [List.append_nil, List.take_of_length_le (show (digits m).length ≤ wlen m from Nat.le_refl _)]
    exact Wk.slots (by simp [Fg, List.replicate]) (by simp only []; omega)
  · refine ⟨by simp, by intro w hw; simp at hw, (by decide : (0 : Nat) < 1000000000), ?_, by simp only []; omega⟩
    show val ((digits m).drop (wlen m)) = _
    rw [List.drop_eq_nil_of_le (show (digits m).length ≤ wlen m from Nat.le_refl _)]; simp [val]
  rintro ⟨k, q, r, n2⟩ ⟨hk, hqW, hr, hv, hn2⟩
  simp only [] at hk hqW hr hv hn2
  by_cases hk0 : k = 0
  · subst hk0
    have dk : decide ((0 : Int) ≤ ((0 : Nat) : Int) - 1) = false := by decide
    have hqr : m / 1000000000 = val q ∧ m % 1000000000 = r := by
      rw [List.drop_zero, val_digits] at hv
      exact (Nat.div_mod_unique (by decide)).2 ⟨by rw [hv]; omega, hr⟩
    have htm := trimO_ok (G := G) htr (id := [5, 5]) (a := []) (b := q) (t := t) hqW (by omega)
    rw [show q.length = wlen m by omega, ← hqr.1] at htm
    simp only [List.length_nil, List.nil_append] at htm
    obtain ⟨z, hz⟩ := trimmed q hqW
    have fr : IntKind.u32.wrap (r : Int) = (r : Int) := by rw [w32, Nat.mod_eq_of_lt (by unfold B32; omega)]
    have hb1 : ∀ (σ : Store) (q : Id), vop σ q (.buildSl 1 1 (.int .u32 0) [(0, .int .u32 (r : Int))]) = some { val := .osl q 1 0 1 false, up := [(q, some ⟨us [r], 1, false⟩)] } := fun σ q => bs_us
    have hload : ∀ y, vload (σb.put [5, 5] y) false 1 (.ref [10] 0 0) = some { val := chv ck cs, rd := [[10]] } := fun y => by
      rw [load_skip (by decide), ← hσb, load_skip (by intro h; simp at h; omega), load_put]
      simp only [chv]; split <;> rfl
    have hblk : us (q ++ t) = us (digits (m / 1000000000) ++ (zs z ++ t)) := by
      rw [hqr.1]
      conv => lhs; rw [hz]
      simp
    have hIn := hI.step h0
    rw [hqr.2] at hIn
    have hrB : r < B32 := by unfold B32; omega
    have hnew : ∀ n3 ck', nn ≤ n3 → 20 ≤ ck' → ck' < n3 → wlen (m / 1000000000) + (zs z ++ t).length = wlen n ∧ Wd (zs z ++ t) ∧ Wd (cs ++ [r]) ∧ (∀ c ∈ cs ++ [r], c < 1000000000) ∧ FmtI n (m / 1000000000) (cs ++ [r]) ∧ 20 ≤ ck' ∧ ck' < n3 ∧ 1000000000 ^ (cs ++ [r]).length * (m / 1000000000) ≤ n ∧ (cs ++ [r]).length ≤ 2 * wlen n + 1 := by
      intro n3 ck' h1 h2 h3
      have hzl := congrArg List.length hz
      rw [List.length_append, ← hqr.1] at hzl
      have hzl' : q.length = wlen (m / 1000000000) + (zs z).length := hzl
      refine ⟨by rw [List.length_append]; omega, wd_append (zs_wd _) htW, wd_append hcW (by intro w hw; simp at hw; subst hw; exact hrB), ?_, hIn, h2, h3, ?_, by rw [List.length_append]; simp; omega⟩
      · intro c hc
        rcases List.mem_append.1 hc with h | h
        · exact hcb c h
        · simp at h; subst h; exact hr
      · rw [List.length_append]
        simp only [List.length_singleton, Nat.pow_succ]
        have := Nat.mul_div_le m 1000000000
        have h4 : 1000000000 ^ cs.length * (1000000000 * (m / 1000000000)) ≤ 1000000000 ^ cs.length * m := Nat.mul_le_mul_left _ this
        rw [← Nat.mul_assoc] at h4; omega
    have hlt : m / 1000000000 < m := Nat.div_lt_self (Nat.pos_of_ne_zero h0) (by decide)
    simp only [SS, Nat.reduceAdd, reduceIte, dk, List.take_zero]
    refine ⟨[([5, 5], ⟨us (q ++ t), 1, false⟩)], _, htm _, by simp [Store.put], by simp, ?_⟩
    have h10 : ∀ y, (σb.put [5, 5] y) [10] = some ⟨[chv ck cs], 1, false⟩ := fun y => by rw [← hσb]; simp [Store.put]; intro h; omega
    have hchv : chv (n2 + 2 + 3 + 4) (cs ++ [r]) = .osl [n2 + 2 + 3 + 4] 1 0 (cs.length + 1) false := by unfold chv; rw [if_neg (by simp)]; simp
    have e1 : ([10] : List Nat) ≠ [n2 + 2 + 3 + 3] := by intro h; simp at h; omega
    have e2 : ([10] : List Nat) ≠ [n2 + 2 + 3 + 4] := by intro h; simp at h; omega
    have e3 : ([0] : List Nat) ≠ [n2 + 2 + 3 + 3] := by intro h; simp at h
    have e4 : ([0] : List Nat) ≠ [n2 + 2 + 3 + 4] := by intro h; simp at h
    have e5 : ([0] : List Nat) ≠ [ck] := by intro h; simp at h; omega
    have e6 : ([10] : List Nat) ≠ [ck] := by intro h; simp at h; omega
    have e7 : ([ck] : List Nat) ≠ [n2 + 2 + 3 + 3] := by intro h; simp at h; omega
    have e8 : ([ck] : List Nat) ≠ [n2 + 2 + 3 + 4] := by intro h; simp at h; omega
    have hne1 : ¬ cs ++ [r] = [] := by simp
    by_cases hcs : cs = []
    · subst hcs
      have hcn : chv ck [] = .nils := by simp [chv]
      have hap : ∀ (σ : Store) (p q : Id), vappend (σ.put q (some ⟨us [r], 1, false⟩)) p 1 4 .nils (.osl q 1 0 1 false) = some { val := .osl p 1 0 1 false, rd := [q], up := [(p, some ⟨us [r], 1, false⟩)] } := fun σ p q =>
        vappend_nils (x := .osl q 1 0 1 false) (ys := us [r]) (elemsOf_osl (bk := ⟨us [r], 1, false⟩) (Store.put_same _ _ _) rfl (by simp [us_len])) (by simp [us]) (by simp [us]) (le_maxLen (by simp [us])) (us_one _)
      rw [hcn] at hload h10
      simp only [SS, Nat.reduceAdd, reduceIte, fr, hload, hb1, hap]
      rw [store_cell (y := .nils) (by rfl) (by intro v; rfl) rfl (by rw [Store.put_other _ _ _ e2]; first | (rw [Store.put_other _ _ _ e1]; exact h10 _) | (rw [Store.put_other _ _ _ e6, Store.put_other _ _ _ e1]; exact h10 _)) (by rfl)]
      simp only [SS, Nat.reduceAdd, reduceIte]
      refine ⟨(m / 1000000000, zs z ++ t, [] ++ [r], n2 + 2 + 3 + 4, n2 + 1000), hnew (n2 + 1000) (n2 + 2 + 3 + 4) (by omega) (by omega) (by omega), hlt, Wk.forget (by simp [Fg, List.replicate]) (fun i => ?_) (by simp only []; omega)⟩
      simp only [hchv, if_neg hne1, hblk]
      simp only [Store.put]
      by_cases i1 : i = [5, 5]
      · subst i1; right; simp
      · by_cases i2 : i = [n2 + 2 + 3 + 4]
        · subst i2; right; simp [e2.symm]
        · by_cases i3 : i = [10]
          · subst i3; right; simp [e2]
          · by_cases i4 : i = [0]
            · subst i4; right; simp [e3, e4, e5, ← hσb, Store.put]
            · left; simp [i1, i2, i3, i4]
    · have hap : ∀ (p q : Id) (y : Option Blk), q ≠ [ck] → vappend ((σb.put [5, 5] y).put q (some ⟨us [r], 1, false⟩)) p 1 4 (.osl [ck] 1 0 cs.length false) (.osl q 1 0 1 false) = some { val := .osl p 1 0 (cs.length + 1) false, rd := [[ck], q], up := [([ck], none), (p, some ⟨us (cs ++ [r]), 1, false⟩)] } := fun p q y hq =>
        app_us hq rfl (by omega) (by rw [← hσb]; simp [Store.put, hcs])
      have hcc : chv ck cs = .osl [ck] 1 0 cs.length false := by unfold chv; rw [if_neg hcs]
      rw [hcc] at hload h10
      simp only [SS, Nat.reduceAdd, reduceIte, fr, hload, hb1]
      rw [hap _ _ _ (by intro h; simp at h; omega)]
      simp only [SS, Nat.reduceAdd, reduceIte]
      rw [store_cell (y := .osl [ck] 1 0 cs.length false) (by rfl) (by intro v; rfl) rfl (by rw [Store.put_other _ _ _ e2]; first | (rw [Store.put_other _ _ _ e1]; exact h10 _) | (rw [Store.put_other _ _ _ e6, Store.put_other _ _ _ e1]; exact h10 _)) (by rfl)]
      simp only [SS, Nat.reduceAdd, reduceIte]
      refine ⟨(m / 1000000000, zs z ++ t, cs ++ [r], n2 + 2 + 3 + 4, n2 + 1000), hnew (n2 + 1000) (n2 + 2 + 3 + 4) (by omega) (by omega) (by omega), hlt, Wk.forget (by simp [Fg, List.replicate]) (fun i => ?_) (by simp only []; omega)⟩
      simp only [hchv, if_neg hne1, hblk]
      simp only [Store.put]
      by_cases i1 : i = [5, 5]
      · subst i1; right; simp
      · by_cases i2 : i = [n2 + 2 + 3 + 4]
        · subst i2; right; simp [e2.symm]
        · by_cases i3 : i = [10]
          · subst i3; right; simp [e2]
          · by_cases i4 : i = [0]
            · subst i4; right; simp [e3, e4, e5, ← hσb, Store.put]
            · left; simp [i1, i2, i3, i4]
  · obtain ⟨j, rfl⟩ : ∃ j, k = j + 1 := ⟨k - 1, by omega⟩
    have dk : decide ((0 : Int) ≤ (j : Int)) = true := dec_true (by omega)
    have hj : ((j + 1 : Nat) : Int) - 1 = (j : Int) := by omega
    have hjl : j < wlen m := by omega
    have hwj : IntKind.i64.wrap ((j : Int) - 1) = (j : Int) - 1 := by rw [IntKind.wrap_i64]; omega
    obtain ⟨a, ha⟩ : ∃ a, (digits m)[j]? = some a := ⟨_, List.getElem?_eq_getElem hjl⟩
    have haw := digits_wd m a (List.mem_of_getElem? ha)
    have f1 := w64_word a haw
    have hrB : r < B32 := by unfold B32; omega
    have f2 := shl_hi r hrB
    have f3 := or_hi r a hrB haw
    have hlt : B32 * r + a < 18446744073709551616 := by unfold B32 at *; omega
    have f4 : vbinq .quo .int (.int .u64 ((B32 * r + a : Nat) : Int)) (.int .u64 1000000000) = some (.int .u64 (((B32 * r + a) / 1000000000 : Nat) : Int)) := quo64 (B32 * r + a) 1000000000 hlt (by decide)
    have f5 : vbinq .rem .int (.int .u64 ((B32 * r + a : Nat) : Int)) (.int .u64 1000000000) = some (.int .u64 (((B32 * r + a) % 1000000000 : Nat) : Int)) := rem64 (B32 * r + a) 1000000000 (by decide)
    have hqlt : (B32 * r + a) / 1000000000 < B32 := by unfold B32 at *; omega
    have f6 : IntKind.u32.wrap (((B32 * r + a) / 1000000000 : Nat) : Int) = (((B32 * r + a) / 1000000000 : Nat) : Int) := by rw [w32, Nat.mod_eq_of_lt hqlt]
    have hia := iaddr_own (q := [5, 5]) (t := false) hjl
    have hol : j < ((digits m).take (j + 1) ++ q ++ t).length := by simp; have : (digits m).length = wlen m := rfl; omega
    have hv' : val ((digits m).drop j) = val ((B32 * r + a) / 1000000000 :: q) * 1000000000 + (B32 * r + a) % 1000000000 := by
      rw [val_drop_cons ha]
      simp only [val]
      rw [hv, Nat.add_mul, Nat.mul_add, Nat.mul_assoc B32]
      have := Nat.div_add_mod (B32 * r + a) 1000000000
      rw [Nat.mul_comm] at this
      omega
    have hmod : (B32 * r + a) % 1000000000 < 1000000000 := Nat.mod_lt _ (by decide)
    simp only [SS, Nat.reduceAdd, reduceIte, dk, hj, f2, hia]
    rw [load_us (o := (digits m).take (j + 1) ++ q ++ t) (b := false) (by simp [Store.put]) (take_get ha)]
    simp only [SS, Nat.reduceAdd, reduceIte, f1, f3, f4, f6, hia]
    rw [store_us (o := (digits m).take (j + 1) ++ q ++ t) (by simp [Store.put]) hol, take_set (show j < (digits m).length from hjl)]
    simp only [SS, Nat.reduceAdd, reduceIte, f5, hwj]
    refine ⟨(j, (B32 * r + a) / 1000000000 :: q, (B32 * r + a) % 1000000000, _), ⟨by simp; omega, ?_, hmod, hv', by simp only []; omega⟩, Nat.lt_succ_self j, Wk.forget (by simp [Fg, List.replicate]) (fun i => ?_) (Nat.le_refl _)⟩
    · intro z hz
      rcases List.mem_cons.1 hz with rfl | hz
      · exact hqlt
      · exact hqW z hz
    · simp only [Store.put]; split <;> simp
end
end Go.VL
end

section
namespace Go.VL
section
variable {P : Program} {G : Nat → Option (List AV)} {π : Id}
def Cont (P : Program) (G : Nat → Option (List AV)) (π : Id) (own : Nat → Prop) (E : Env) (w : World) (rest : Code) (R : Exit → Act → World → Prop) (s : VS) : Prop :=
  ∀ E' w' a', AdvP own π E E' w w' → Matched G π own E' w' s a' → rest.wp P R a' w'
def Ended (G : Nat → Option (List AV)) (π : Id) (own : Nat → Prop) (E : Env) (w : World) (R : Exit → Act → World → Prop) (e : VExit) (s : VS) : Prop :=
  ∀ E' w' a', AdvP own π E E' w w' → Matched G π own E' w' s a' → R e.real a' w'
theorem Cont.seq {own : Nat → Prop} {E : Env} {w : World} {c rest : Code} {vc : VCode} {R : Exit → Act → World → Prop} {s : VS} (hc : cCode P c = some vc)
    (k : vwp P G π vc (Then (Cont P G π own E w rest R) (Ended G π own E w R)) s) : Cont P G π own E w (.seq c rest) R s := fun E' w' a' had hm => by
  refine wp_seq ((VW.of k) c hc own E' w' a' _ hm fun e s2 E2 w2 a2 hq had2 hm2 => ?_)
  cases e with
  | normal => exact hq E2 w2 a2 (had.trans had2) hm2
  | exit id => exact hq E2 w2 a2 (had.trans had2) hm2
  | ret => exact hq E2 w2 a2 (had.trans had2) hm2
theorem Cont.wk {own : Nat → Prop} {E : Env} {w : World} {rest : Code} {R : Exit → Act → World → Prop} {s s' : VS} (h : Wk G π s s') (k : Cont P G π own E w rest R s') : Cont P G π own E w rest R s := fun E' w' a' had hm => by
  obtain ⟨E2, had2, hm2⟩ := h own E' w' a' hm
  exact k E2 w' a' (had.trans had2) hm2
end
end Go.VL
end

section
set_option linter.unusedSimpArgs false
set_option maxRecDepth 100000
namespace Go.Proofs
open Go.VL Go.RowKit
def Tryz.fv0 : VCode := (.reg none [⟨(some 1), (.box (.t 0)), none⟩, ⟨(some 2), (.mv (.c (.str []))), none⟩])
def Tryz.fv1 : VCode := (.reg none [⟨(some 11), (.faddr 1 (.t 1)), none⟩, ⟨(some 12), (.load false 1 (.t 11)), none⟩, ⟨(some 13), (.call (.f 145) [(.t 12)]), none⟩, ⟨(some 14), (.call (.f 95) [(.t 13)]), none⟩, ⟨(some 3), (.mv (.t 14)), none⟩])
def Tryz.fv2 : VCode := (.seq (.reg none [⟨(some 15), (.mv (.t 3)), none⟩, ⟨(some 16), (.len false (.t 15)), none⟩, ⟨(some 17), (.bin .eql .int (.t 16) (.c (.int .i64 (0)))), none⟩]) (.cond (.t 17) (.seq (.reg none [⟨(some 2), (.mv (.c (.str [48]))), none⟩]) .ret) .skip))
def Tryz.fv3 : VCode := (.reg none [⟨(some 4), (.box (.c .nils)), none⟩])
theorem Tryz.format_pre (G : Nat → Option (List AV)) (n : Nat) (hn0 : n ≠ 0) (hn : wlen n ≤ 1000000) (ht145 : TrimC Tryz.prog G 145) (htr : Has Tryz.prog 145 w_integer_trim) (hcl : Has Tryz.prog 95 w_slices_Clone_Luint32_uint32)
    {own : Nat → Prop} {E : Env} {w : World} {R : Exit → Act → World → Prop} {c0 c1 c2 c3 c4 rest : Code} (h0 : cCode Tryz.prog c0 = some Tryz.fv0) (h1 : cCode Tryz.prog c1 = some Tryz.fv1) (h2 : cCode Tryz.prog c2 = some Tryz.fv2) (h3 : cCode Tryz.prog c3 = some Tryz.fv3)
    (h4 : cCode Tryz.prog c4 = some (w_fmtLoop 145))
    (hK : ∀ t cs' r ck nn, Wd (cs' ++ [r]) → (∀ c ∈ cs' ++ [r], c < 1000000000) → (cs' ++ [r]).length ≤ 10000000 → Lib.decDigits n = Lib.decDigits r ++ padall cs' → 20 ≤ ck → Cont Tryz.prog G [] own E w rest R (fmtSt n 0 t (cs' ++ [r]) ck nn)) :
    Cont Tryz.prog G [] own E w (.seq c0 (.seq c1 (.seq c2 (.seq c3 (.seq c4 rest))))) R ⟨IV (n : Int) :: List.replicate 73 (.tup []), fun _ => none, 0⟩ := by
  refine Cont.seq h0 ?_
  simp only [Tryz.fv0, SS, Nat.reduceAdd, reduceIte, IV_one]
  refine Cont.seq h1 ?_
  simp only [Tryz.fv1, SS, Nat.reduceAdd, reduceIte, load_put, IV_p1, abs_nat]
  refine vsCall_VP (trimW ht145 n (by omega)) (by simp [W_pure]) ?_
  simp only [SS, Nat.reduceAdd, reduceIte]
  refine ⟨[], _, cloneO_ok hcl n hn0 hn _, by simp, by simp, ?_⟩
  have d0 : decide ((wlen n : Int) = 0) = false := dec_false (by have : wlen n ≠ 0 := fun e => hn0 (wlen_pos_iff.1 e); omega)
  simp only [SS, Nat.reduceAdd, reduceIte]
  refine Cont.seq h2 ?_
  simp only [Tryz.fv2, SS, Nat.reduceAdd, reduceIte, d0]
  refine Cont.seq h3 ?_
  have nils1 : (AV.nils.cells.all AV.one = true) = True := by simp [AV.cells, AV.one]
  simp only [Tryz.fv3, SS, Nat.reduceAdd, reduceIte, nils1]
  refine Cont.seq h4 ?_
  refine fmt_loop htr n hn0 hn (Wk.forget (by simp [fmtSt, Fg, List.replicate]) (fun j => ?_) (by simp [fmtSt])) (fun t cs' r ck nn s a1 a2 a3 a4 a5 hw => Cont.wk hw (hK t cs' r ck nn a1 a2 a3 a4 a5))
  have e1 : (IV (n : Int)).size = 2 := rfl
  have e2 : AV.nils.size = 1 := rfl
  simp only [fmtSt, Store.put, Store.app, e1, e2, List.append_nil, chv, if_true]
  by_cases i1 : j = [5, 5]
  · subst i1; right; simp
  · by_cases i3 : j = [10]
    · subst i3; right; simp
    · by_cases i4 : j = [0]
      · subst i4; right; simp
      · left; simp [i1, i3, i4]
end Go.Proofs
end

section
namespace Go.Proofs
open Go.RowKit Go.Shelf
attribute [local go_sem] Oper.semAt_some
set_option maxRecDepth 100000 in
set_option maxHeartbeats 2000000 in
theorem Tryz.bk1_in (F : Fence) (n : Nat) (h8 : F.fn 172) (hro : F.round = none) (hn : 1 ≤ n) (l Bs n₀ b off cap : Nat) (zs : List Int) (hreach : zs.length * 8 ≤ 140737488351232) (hb : b < n₀) (J Jx : List Nat → World → Prop)
    (hY : ∀ pre x W, J pre W → pre.length < zs.length → YieldAt F (n - 1) Tryz.prog l #[.int .i64 (Tryz.bw zs x).1, .int .u32 (Tryz.bw zs x).2] W fun e W' =>
      (e = .returned (.bool true) ∧ J (pre ++ [x]) W' ∧ Tryz.BK n₀ Bs W W') ∨ (e = .returned (.bool false) ∧ Jx (pre ++ [x]) W'))
    (W : World) (hBs0 : W.cell? ⟨Bs, 0, none⟩ = some (.slice (some ⟨b, off, none⟩) zs.length cap)) (hc : ∀ j, j < zs.length → W.cell? ⟨b, off + j, none⟩ = some (.int .u32 (zs[j]?.getD 0))) (h0 : J [] W) :
    CallsIn F n Tryz.prog 172 #[.func (.yield l) #[] #[], .pointer (some ⟨Bs, 0, none⟩)] W fun e W' => (∃ v, e = .returned v) ∧
      ((∃ ys, ys = Tryz.upto (fun i => i) zs.length ∧ J ys W') ∨ (∃ pre, (∃ k, k ≤ zs.length ∧ pre = Tryz.upto (fun i => i) k) ∧ Jx pre W')) := by
  refine callsIn_of_wp Tryz.func172 rfl h8 ?_ hro
  simp only [Tryz.ntmps172, List.size_toArray, List.length_cons, List.length_nil, Nat.reduceAdd, Nat.reduceSub, Array.replicate_succ, Array.replicate_zero, List.push_toArray, List.append_toArray, List.nil_append, List.cons_append]
  gi_wp2
  gi_loopw [3] (fun i wr => ∃ k : Nat, k ≤ zs.length ∧ i = .int .i64 ((zs.length : Int) - 1 - k) ∧ J (Tryz.upto (fun i => i) k) wr ∧ Tryz.BK n₀ Bs W wr)
    (fun i _ => (intOf i + 1).toNat)
  case atStart => exact ⟨0, Nat.zero_le _, by simp, h0, Tryz.BK.refl _ _ _⟩
  case round =>
    obtain ⟨k, hk, rfl, hJs, hnx⟩ := hrel
    have hBk := hnx.2.trans hBs0
    have hcx : ∀ j, j < zs.length → wr.cell? ⟨b, off + j, none⟩ = some (.int .u32 (zs[j]?.getD 0)) := fun j h => (hnx.1.cell (p := ⟨b, off + j, none⟩) hb).trans (hc j h)
    by_cases hlt : k < zs.length
    · obtain ⟨q, hq⟩ : ∃ q, q = zs.length - 1 - k := ⟨_, rfl⟩
      have hqi : (zs.length : Int) - 1 - k = q := by omega
      have hql : q < zs.length := by omega
      have hbw : Hid (Tryz.bw zs k = ((q : Int), zs[q]?.getD 0)) := by show Tryz.bw zs k = _; rw [Tryz.bw, ← hq, hqi]
      have hqk : Hid (q + 1 + k = zs.length) := by show q + 1 + k = zs.length; omega
      clear hq
      have hcx' := hcx q hql
      generalize zs[q]?.getD 0 = zq at hbw hcx'
      obtain ⟨fn, tmps, assign, body, hy, hR⟩ := hY _ k wr hJs (by rw [Tryz.upto_length]; exact hlt)
      rw [hbw.out] at hy
      dsimp only at hy
      rw [hqi]
      clear hqi hY h0 hc hcx
      gi_wp2
      refine hR.mono ?_
      rintro e W3 (⟨rfl, hJ3, hk3⟩ | ⟨rfl, hJx3⟩)
      · gi_wp2
        go_roundw
        case rel => exact ⟨k + 1, by omega, by have := hqk.out; congr 1; omega, by rw [Tryz.upto_succ]; exact hJ3, hnx.trans hk3⟩
        case measure => simp [intOf]
      · gi_wp2
        refine bodyPost_ret (results_none rfl _ _ _) rfl ?_
        exact ⟨⟨_, rfl⟩, .inr ⟨_, ⟨k + 1, by omega, by rw [Tryz.upto_succ]⟩, hJx3⟩⟩
    · obtain rfl : k = zs.length := by omega
      have hneg : (zs.length : Int) - 1 - zs.length = -1 := by omega
      rw [hneg]
      gi_wp2
      go_end0
      exact ⟨⟨_, rfl⟩, .inl ⟨_, rfl, hJs⟩⟩
theorem Tryz.bk_stops (F : Fence) (n : Nat) (h8 : F.fn 172) (hro : F.round = none) (hn : 1 ≤ n) (Bs n₀ b off cap : Nat) (zs : List Int) (hreach : zs.length * 8 ≤ 140737488351232) (hb : b < n₀) (w : World) (hBs : Bs < w.heap.size) (hn₀ : n₀ ≤ w.heap.size)
    (hc : w.cell? ⟨Bs, 0, none⟩ = some (.slice (some ⟨b, off, none⟩) zs.length cap)) (hI : ∀ j, j < zs.length → w.cell? ⟨b, off + j, none⟩ = some (.int .u32 (zs[j]?.getD 0))) :
    SeqStopsK F n Tryz.prog 172 #[.pointer (some ⟨Bs, 0, none⟩)] (fun x : Nat => #[Value.int .i64 (Tryz.bw zs x).1, Value.int .u32 (Tryz.bw zs x).2]) (Tryz.BK n₀ Bs) (fun ys => ys = Tryz.upto (fun i => i) zs.length)
      (fun pre => ∃ k, k ≤ zs.length ∧ pre = Tryz.upto (fun i => i) k) zs.length w := fun l J Jx W hW _ _ hY h0 =>
  Tryz.bk1_in F n h8 hro hn l Bs n₀ b off cap zs hreach hb J Jx hY W ((hW.cell (p := ⟨Bs, 0, none⟩) hBs).trans hc) (fun j hj => (hW.cell (p := ⟨b, off + j, none⟩) (show b < w.heap.size by omega)).trans (hI j hj)) h0
end Go.Proofs
end

section
namespace Go.VL
theorem ref_cells {G : Nat → Option (List AV)} {own : Nat → Prop} {E : Env} {w : World} {σ : Store} {id : Id} {bk : Blk} {e o : Nat} {v : Value} (hi : Inv G own E w σ) (hs : σ id = some bk) (hr : Rep E w (.ref id e o) v) :
    ∃ g N, v = .pointer (some ⟨g, e * bk.k + o, none⟩) ∧ E.μ id = some (g, bk.k, N) ∧ g < w.heap.size ∧ ∀ j c, (flat bk.els)[j]? = some c → ∃ v, w.cell? ⟨g, j, none⟩ = some v ∧ Rep E w c v := by
  obtain ⟨g, N, cur, ty, hB⟩ := hi.blk id bk hs
  simp only [Rep] at hr
  obtain ⟨g', k, N', hm, rfl⟩ := hr
  rw [hB.μ] at hm
  simp only [Option.some.injEq, Prod.mk.injEq] at hm
  obtain ⟨rfl, rfl, _⟩ := hm
  refine ⟨g, N, rfl, hB.μ, cells_lt hB.heap, fun j c hj => ?_⟩
  have := hB.row j c hj
  rwa [Nat.zero_add] at this
theorem osl_cells {G : Nat → Option (List AV)} {own : Nat → Prop} {E : Env} {w : World} {σ : Store} {id : Id} {bk : Blk} {k len : Nat} {t : Bool} {v : Value} (hi : Inv G own E w σ) (hs : σ id = some bk) (hr : Rep E w (.osl id k 0 len t) v) :
    ∃ g cap, v = .slice (some ⟨g, 0, none⟩) len cap ∧ g < w.heap.size ∧ ∀ j c, (flat bk.els)[j]? = some c → ∃ v, w.cell? ⟨g, j, none⟩ = some v ∧ Rep E w c v := by
  obtain ⟨g, N, cur, ty, hB⟩ := hi.blk id bk hs
  simp only [Rep] at hr
  obtain ⟨g', N', cap, hm, rfl, _⟩ := hr
  rw [hB.μ] at hm
  simp only [Option.some.injEq, Prod.mk.injEq] at hm
  obtain ⟨rfl, _, _⟩ := hm
  refine ⟨g, cap, by simp, cells_lt hB.heap, fun j c hj => ?_⟩
  have := hB.row j c hj
  rwa [Nat.zero_add] at this
end Go.VL
end

section
set_option linter.unusedSimpArgs false
set_option maxRecDepth 100000
namespace Go.Proofs
open Go.VL Go.RowKit Go.Shelf
attribute [local go_sem] Oper.semAt_some
def fmtT (zs : List Int) : List Nat → List UInt8
  | [] => []
  | k :: ks => (if (Tryz.bw zs k).1 < (zs.length : Int) - 1 then pk 9 (Tryz.bw zs k).2.toNat else Lib.decDigits (Tryz.bw zs k).2.toNat) ++ fmtT zs ks
theorem Tryz.writeString_k (B b : Nat) (bs : List Value) (s : ByteArray) (w : World) (h : Lib.IsBuilderF 164 5 B b bs w) (hlen : bs.length + s.size ≤ 140737488355328) (hBw : B ≤ w.heap.size) :
    Calls Tryz.prog 151 #[.pointer (some ⟨b, 0, none⟩), .string s] w fun e w' => e = .returned (.tuple #[.int .i64 s.size, .nilIface]) ∧ (Lib.BuilderAtF 164 5 B b (.pointer (some ⟨b, 0, none⟩)) (bs ++ Lib.strCells s) w' ∧ Below B w w' ∧ Lib.OthersKept 5 (some b) w w') :=
  Any.Builder_WriteString_k (P := Tryz.prog) (ρ := Tryz.lays105_ren) { Tryz.lays105 with } Tryz.Builder_Extra_105 B b bs s w h hlen hBw
theorem own_builder (B b0 : Nat) {β : Type} {T e : TypeId} {f : β → List Value} : OwnFrom B (fun (s : β) W => Lib.IsBuilderF T e b0 b0 (f s) W) := fun s W W' row h hg hr => by
  have key : ∀ p, Lib.BuilderAtF T e b0 b0 p (f s) W → Lib.BuilderAtF T e b0 b0 p (f s) W' := by
    rintro p ⟨hB, v, hb, hown, hne⟩
    have hlt : b0 < W.heap.size := (Array.getElem?_eq_some_iff.1 hb).1
    refine ⟨hB, v, ?_, hown.kept hg ?_, hne⟩
    · rw [hg.block b0 hlt (fun e => ?_)]
      · exact hb
      · obtain ⟨_, o, ho, hoc⟩ := hr b0 e.symm
        rw [hb] at ho; cases ho; simp [Obj.isCells] at hoc
    · cases hv : v.ownBlock with
      | none => exact .inl rfl
      | some g =>
        refine .inr fun e => ?_
        obtain ⟨_, o, ho, hoc⟩ := hr g e.symm
        rcases hown.2 with ⟨rfl, _⟩ | ⟨g', cap, cur, fz, rfl, _, hgg, _⟩
        · simp [Value.ownBlock] at hv
        · simp [Value.ownBlock] at hv
          subst hv
          rw [hgg] at ho; cases ho; simp [Obj.isCells] at hoc
  exact h.imp (key _) (key _)
theorem own_block (B k : Nat) {β : Type} {cs : Array Value} {T : TypeId} : OwnFrom B (fun (_ : β) W => W.heap[k]? = some (.cells cs T)) := fun s W W' row h hg hr => by
  have hlt : k < W.heap.size := (Array.getElem?_eq_some_iff.1 h).1
  show W'.heap[k]? = _
  have h' : W.heap[k]? = some (.cells cs T) := h
  rw [hg.block k hlt (fun e => ?_)]
  · exact h'
  · obtain ⟨_, o, ho, hoc⟩ := hr k e.symm
    rw [h'] at ho; cases ho; simp [Obj.isCells] at hoc
theorem keeps_write {B b Bs : Nat} {W W2 W3 : World} {cs : Array Value} (hb : b < B) (hB2 : Below W.heap.size W W2) (hbb : ∃ cb fz, W.heap[b]? = some (.cells cb 164 fz)) (hBox : W.heap[Bs]? = some (.cells cs 57)) (hne : Bs ≠ b) (hBe : Below b W2 W3) (hO : Lib.OthersKept 5 (some b) W2 W3) :
    KeepsFrom B W W3 ∧ Tryz.BK b Bs W W3 ∧ W3.heap[Bs]? = some (.cells cs 57) := by
  have hlt : ∀ k o, W.heap[k]? = some o → k < W.heap.size := fun k o h => (Array.getElem?_eq_some_iff.1 h).1
  have hk2 : ∀ k o, W.heap[k]? = some o → W2.heap[k]? = some o := fun k o h => by rw [hB2.block k (hlt k o h)]; exact h
  obtain ⟨cb', fz', hcb⟩ := hbb
  have h57 : W3.heap[Bs]? = some (.cells cs 57) := hO Bs _ (hk2 _ _ hBox) (fun e => hne (Option.some.inj e)) (fun c fz e => by cases e)
  refine ⟨⟨Nat.le_trans hB2.size hBe.size, fun k o hBk hk ho => ?_⟩, ⟨⟨hBe.os.trans hB2.os, hBe.tape.trans hB2.tape, hBe.output.trans hB2.output, Nat.le_trans hB2.size hBe.size, fun k hk => ?_⟩, ?_⟩, h57⟩
  · exact hO k o (hk2 _ _ hk) (fun e => by have := Option.some.inj e; omega) (fun c fz e => by subst e; simp [Obj.isCells] at ho)
  · have hkb : k < W.heap.size := Nat.lt_trans hk (hlt b _ hcb)
    rw [hBe.block k hk, hB2.block k hkb]
  · rw [World.cell?_of_block (a := ⟨Bs, 0, none⟩) (w := W) (w' := W3) (by show W3.heap[Bs]? = W.heap[Bs]?; rw [h57, hBox])]
theorem fmtT_snoc (zs : List Int) (pre : List Nat) (k : Nat) : fmtT zs (pre ++ [k]) = fmtT zs pre ++ (if (Tryz.bw zs k).1 < (zs.length : Int) - 1 then pk 9 (Tryz.bw zs k).2.toNat else Lib.decDigits (Tryz.bw zs k).2.toNat) := by
  induction pre with
  | nil => simp [fmtT]
  | cons a l ih => simp only [List.cons_append, fmtT]; rw [ih, List.append_assoc]
theorem bw_some {ws : List Nat} (h : ∀ c ∈ ws, c < 1000000000) (x : Nat) : ∃ c : Nat, Tryz.bw (intsN ws) x = (((intsN ws).length : Int) - 1 - x, (c : Int)) ∧ c < 1000000000 := by
  unfold Tryz.bw
  cases he : (intsN ws)[(intsN ws).length - 1 - x]? with
  | none => exact ⟨0, rfl, by decide⟩
  | some z =>
    have hm := List.mem_of_getElem? he
    unfold intsN at hm
    obtain ⟨c, hc, rfl⟩ := List.mem_map.1 hm
    exact ⟨c, rfl, h c hc⟩
theorem fmtT_len {ws : List Nat} (h : ∀ c ∈ ws, c < 1000000000) (pre : List Nat) : (fmtT (intsN ws) pre).length ≤ 20 * pre.length := by
  have hd : ∀ c : Nat, c < 1000000000 → (Lib.decDigits c).length ≤ 9 := fun c hc => by rw [Lib.decDigits_length]; exact nd_le (by decide) hc
  induction pre with
  | nil => simp [fmtT]
  | cons x pre ih =>
    obtain ⟨c, hbw, hc⟩ := bw_some h x
    have hdc := hd c hc
    have hpk : (pk 9 c).length = 9 := by rw [pk_eq 9 (by decide) hc, List.length_append, List.length_replicate, ← Lib.decDigits_length]; omega
    simp only [fmtT, hbw, List.length_append, List.length_cons, Int.toNat_natCast]
    split <;> omega
theorem wrap64_nn {n : Int} (h0 : 0 ≤ n) (h1 : n < 9223372036854775808) : wrap64 n = n := by unfold wrap64; omega
theorem repeatL_one (z : Nat) : Lib.repeatL [(48 : UInt8)] z = List.replicate z 48 := by
  induction z with
  | zero => rfl
  | succ z ih => rw [List.replicate_succ, ← ih]; rfl
theorem Tryz.zeros (z : Nat) (hz : z ≤ 1000) (w : World) : Calls Tryz.prog 130 #[.string ⟨#[48]⟩, .int .i64 (z : Int)] w fun e w' => e = .returned (.string ⟨(List.replicate z (48 : UInt8)).toArray⟩) ∧ Below w.heap.size w w' := by
  match z, hz with
  | 0, _ => exact (Tryz.strings_Repeat_zero ⟨#[48]⟩ w).mono fun e w' h => ⟨h.1, h.2 ▸ Below.refl _ _⟩
  | 1, _ => exact (Tryz.strings_Repeat_one ⟨#[48]⟩ w).mono fun e w' h => ⟨h.1, h.2 ▸ Below.refl _ _⟩
  | z + 2, hz =>
    have := Tryz.strings_Repeat_main ⟨#[48]⟩ (z + 2) w (by omega) (by omega) (by show 1 * (z + 2) ≤ _; omega) (by decide)
    rw [show Lib.repeatL (⟨#[48]⟩ : ByteArray).data.toList (z + 2) = List.replicate (z + 2) 48 from repeatL_one _] at this
    exact this
theorem range74 (f : Nat → Value) : (List.range 74).map f = [f 0, f 1, f 2, f 3, f 4, f 5, f 6, f 7, f 8, f 9, f 10, f 11, f 12, f 13, f 14, f 15, f 16, f 17, f 18, f 19, f 20, f 21, f 22, f 23, f 24, f 25, f 26, f 27, f 28, f 29, f 30, f 31, f 32, f 33, f 34, f 35, f 36, f 37, f 38, f 39, f 40, f 41, f 42, f 43, f 44, f 45, f 46, f 47, f 48, f 49, f 50, f 51, f 52, f 53, f 54, f 55, f 56, f 57, f 58, f 59, f 60, f 61, f 62, f 63, f 64, f 65, f 66, f 67, f 68, f 69, f 70, f 71, f 72, f 73] := rfl
theorem frame74 {E : Env} {w : World} {a : Act} {t : List AV} (h : FrameRep E w t a) (ht : t.length = 74) : ∃ tv : Nat → Value, a.tmps = #[tv 0, tv 1, tv 2, tv 3, tv 4, tv 5, tv 6, tv 7, tv 8, tv 9, tv 10, tv 11, tv 12, tv 13, tv 14, tv 15, tv 16, tv 17, tv 18, tv 19, tv 20, tv 21, tv 22, tv 23, tv 24, tv 25, tv 26, tv 27, tv 28, tv 29, tv 30, tv 31, tv 32, tv 33, tv 34, tv 35, tv 36, tv 37, tv 38, tv 39, tv 40, tv 41, tv 42, tv 43, tv 44, tv 45, tv 46, tv 47, tv 48, tv 49, tv 50, tv 51, tv 52, tv 53, tv 54, tv 55, tv 56, tv 57, tv 58, tv 59, tv 60, tv 61, tv 62, tv 63, tv 64, tv 65, tv 66, tv 67, tv 68, tv 69, tv 70, tv 71, tv 72, tv 73] ∧ ∀ j c, t[j]? = some c → Rep E w c (tv j) := by
  obtain ⟨hl, hp⟩ := repL_iff.1 h
  refine ⟨fun i => a.tmps.toList.getD i undef, ?_, fun j c hj => ?_⟩
  · have e : a.tmps.toList = (List.range 74).map fun i => a.tmps.toList.getD i undef := by
      refine List.ext_getElem (by simp; rw [← Array.length_toList]; omega) fun i h1 h2 => ?_
      simp only [List.getElem_map, List.getElem_range, List.getD_eq_getElem?_getD]
      rw [List.getElem?_eq_getElem h1]; rfl
    rw [range74] at e
    rw [← Array.toArray_toList (xs := a.tmps)]
    exact congrArg List.toArray e
  · obtain ⟨v, hv, hr⟩ := hp j c hj
    show Rep E w c (a.tmps.toList.getD j undef)
    rw [List.getD_eq_getElem?_getD, hv]; exact hr
theorem fmtT_law (cs' : List Nat) (r : Nat) : ∀ k, k ≤ cs'.length → fmtT (intsN (cs' ++ [r])) (Tryz.upto (fun i => i) (k + 1)) = Lib.decDigits r ++ padall (cs'.drop (cs'.length - k)) := by
  have hl : (intsN (cs' ++ [r])).length = cs'.length + 1 := by rw [intsN_len]; simp
  intro k
  induction k with
  | zero =>
    intro _
    rw [Tryz.upto_succ, fmtT_snoc]
    have e : (intsN (cs' ++ [r]))[(intsN (cs' ++ [r])).length - 1 - 0]?.getD 0 = (r : Int) := by
      rw [hl]; unfold intsN; rw [List.getElem?_map, List.getElem?_append_right (by omega)]; simp
    simp only [Tryz.bw, e]
    rw [if_neg (by omega)]
    simp [Tryz.upto, fmtT, padall]
  | succ k ih =>
    intro hk
    rw [Tryz.upto_succ, fmtT_snoc, ih (by omega)]
    have hlt : cs'.length - (k + 1) < cs'.length := by omega
    have e : (intsN (cs' ++ [r]))[(intsN (cs' ++ [r])).length - 1 - (k + 1)]?.getD 0 = (cs'[cs'.length - (k + 1)] : Int) := by
      rw [hl, show cs'.length + 1 - 1 - (k + 1) = cs'.length - (k + 1) from by omega]; unfold intsN
      rw [List.getElem?_map, List.getElem?_append_left hlt, List.getElem?_eq_getElem hlt]; rfl
    simp only [Tryz.bw, e]
    rw [if_pos (by omega), List.append_assoc]
    congr 1
    rw [List.drop_eq_getElem_cons hlt, show cs'.length - (k + 1) + 1 = cs'.length - k from by omega]
    rfl
theorem Tryz.format_at (G : Nat → Option (List AV)) (n : Nat) (hn0 : n ≠ 0) (hn : wlen n ≤ 1000000) (ht145 : TrimC Tryz.prog G 145) (htr : Has Tryz.prog 145 w_integer_trim) (hcl : Has Tryz.prog 95 w_slices_Clone_Luint32_uint32)
    (w : World) (vs : List Value) (ok : Nat → Prop) (hi : VL.Inv G (fun k => w.heap.size ≤ k) ⟨fun _ => none, ok⟩ w (fun _ => none)) (hr : RepL ⟨fun _ => none, ok⟩ w [IV (n : Int)] vs) (hp : Tryz.Pow10 w) :
    Calls Tryz.prog 129 vs.toArray w fun e w' => e = .returned (.string ⟨(Lib.decDigits n).toArray⟩) ∧ Below w.heap.size w w' := by
  refine (callsIn_wide (n := 3)).1 (callsIn_of_wp_marks Tryz.func129 rfl trivial ?_ rfl)
  rw [wpIn_wide]
  have hal : vs.length = 1 := RepL.len hr
  have hm : Matched G [] (fun k => w.heap.size ≤ k) ⟨fun _ => none, ok⟩ w ⟨IV (n : Int) :: List.replicate 73 (.tup []), fun _ => none, 0⟩
      { tmps := vs.toArray ++ Array.replicate (Tryz.f129.ntmps - vs.toArray.size) undef, defers := [] } := by
    refine ⟨?_, hi, fun _ _ _ => rfl, rfl⟩
    show RepL _ w _ _
    simp only [Array.toList_append, Array.toList_replicate, List.size_toArray, hal, Tryz.ntmps129]
    refine RepL.append (xs := [IV (n : Int)]) (ys := List.replicate 73 (.tup [])) hr (repL_iff.2 ⟨by simp, fun j c hj => ?_⟩)
    have hjl : j < 73 := by have := (List.getElem?_eq_some_iff.1 hj).1; simpa using this
    simp only [List.getElem?_replicate, hjl, if_true, Option.some.injEq] at hj ⊢
    subst hj
    exact ⟨undef, by simp, by simp only [Rep, undef]; exact ⟨#[], rfl, by simp [RepL]⟩⟩
  refine (Tryz.format_pre G n hn0 hn ht145 htr hcl (own := fun k => w.heap.size ≤ k) (E := ⟨fun _ => none, ok⟩) (w := w) (by kernel_rfl) (by kernel_rfl) (by kernel_rfl) (by kernel_rfl) (by kernel_rfl) ?_) _ _ _ (AdvP.refl _ _ _ _) hm
  intro t cs' r ck nn hcW hcb hcsl htxt hck E' w1 a1 had hm1
  have hinv := hm1.inv
  have hfr := hm1.frame
  have hdf := hm1.defers
  obtain ⟨tv, etm, htv⟩ := frame74 hfr (by simp [fmtSt])
  have h1 := htv 1 (.ref [0] 0 0) rfl
  have h4 := htv 4 (.ref [10] 0 0) rfl
  obtain ⟨tm, df⟩ := a1
  simp only [] at hdf etm
  subst hdf
  subst etm
  obtain ⟨g0, N0, et1, _, hg0, hcs0⟩ := ref_cells hinv (bk := ⟨[IV (n : Int)], 2, false⟩) (by simp [fmtSt, Store.put] <;> omega) h1
  obtain ⟨g10, N10, et4, _, hg10, hcs10⟩ := ref_cells hinv (bk := ⟨[chv ck (cs' ++ [r])], 1, false⟩) (by simp [fmtSt, Store.put] <;> omega) h4
  have hneg : w1.cell? ⟨g0, 0, none⟩ = some (.bool false) := by
    obtain ⟨v, hv, hr0⟩ := hcs0 0 (.bool false) (by simp [flat, IV, AV.cells] <;> omega)
    rw [hv]; simp only [Rep] at hr0; rw [hr0]
  obtain ⟨v10, hv10, hr10⟩ := hcs10 0 (chv ck (cs' ++ [r])) (by unfold chv; rw [if_neg (by simp)]; rfl)
  rw [show chv ck (cs' ++ [r]) = .osl [ck] 1 0 (cs' ++ [r]).length false from by unfold chv; rw [if_neg (by simp)]] at hr10
  obtain ⟨gc, cap, rfl, hgc, hcsc⟩ := osl_cells hinv (bk := ⟨us (cs' ++ [r]), 1, false⟩) (by simp [fmtSt, Store.put] <;> omega) hr10
  have hB01 : Below w.heap.size w w1 := ⟨had.os, had.tape, had.output, had.size, fun k hk => had.block k hk (by omega)⟩
  have hp1 : Tryz.Pow10 w1 := fun i hi => by
    have h1 := hp i hi
    exact (hB01.cell (p := ⟨2, i, none⟩) (World.block_lt_of_cell? _ _ h1)).trans h1
  have hcells : ∀ j, j < (intsN (cs' ++ [r])).length → w1.cell? ⟨gc, 0 + j, none⟩ = some (.int .u32 ((intsN (cs' ++ [r]))[j]?.getD 0)) := by
    intro j hj
    rw [intsN_len] at hj
    obtain ⟨c, hc⟩ : ∃ c, (cs' ++ [r])[j]? = some c := ⟨_, List.getElem?_eq_getElem hj⟩
    obtain ⟨v, hv, hrv⟩ := hcsc j (.int .u32 (c : Int)) (by rw [us_flat]; exact us_get hc)
    rw [Nat.zero_add, hv]; simp only [Rep] at hrv
    have e : (intsN (cs' ++ [r]))[j]? = some (c : Int) := by unfold intsN; rw [List.getElem?_map, hc]; rfl
    rw [hrv, e]; rfl
  rw [← intsN_len (cs' ++ [r])] at hv10
  clear hfr htv hm1 hm hinv h1 h4 hcs0 hcs10 hcsc hr10
  rw [et1, et4]
  rw [← wpIn_wide (n := 3)]
  have f149 : Fence.wide.fn 149 := trivial
  have f172 : Fence.wide.fn 172 := trivial
  have f150 : Fence.wide.fn 150 := trivial
  have f130 : Fence.wide.fn 130 := trivial
  have f151 : Fence.wide.fn 151 := trivial
  have f152 : Fence.wide.fn 152 := trivial
  gi_wp2_with (gi_at_call 149; refine (Tryz.backward_in Fence.wide 2 trivial rfl _ _ _ _).mono ?_; rintro e w' ⟨rfl, rfl⟩)
  have hbl : (w1.alloc (.cells #[.pointer none, .slice none 0 0] 164)).heap.size = w1.heap.size + 1 := by simp
  have bN := Boxed.new (w1.alloc (.cells #[.pointer none, .slice none 0 0] 164)) 57 (.slice (some ⟨gc, 0, none⟩) (intsN (cs' ++ [r])).length cap)
  rw [hbl] at bN
  have hB0 : Below w1.heap.size w1 ((w1.alloc (.cells #[.pointer none, .slice none 0 0] 164)).alloc (.cells #[.slice (some ⟨gc, 0, none⟩) (intsN (cs' ++ [r])).length cap] 57)) := ((Below.refl _ w1).alloc (Nat.le_refl _) _).alloc (by simp) _
  have hcsN : (cs' ++ [r]).length ≤ 10000000 := hcsl
  refine wpIn_rangeFunc_ownG (α := Nat) (F := Fence.wide) (n := 3) rfl (by omega) (gf := 172) (lb := #[.pointer (some ⟨w1.heap.size + 1, 0, none⟩)]) rfl trivial (enters_of Tryz.func172 (by kernel_rfl) rfl)
    (Tryz.bk_stops Fence.wide 2 trivial rfl (by omega) (w1.heap.size + 1) w1.heap.size gc 0 cap (intsN (cs' ++ [r])) (by rw [intsN_len]; omega) hgc _ (by simp) (by simp; omega) bN.cell (fun j hj => (hB0.cell (p := ⟨gc, 0 + j, none⟩) hgc).trans (hcells j hj))) (fun h k => h.trans k)
    (fun W l o o' hl h h2 h3 => ⟨belowK_b (w := w1) (Nat.le_refl _) W l o o' (by simp at hl; omega) h h2 h3, (belowK_b (w := (w1.alloc (.cells #[.pointer none, .slice none 0 0] 164)).alloc (.cells #[.slice (some ⟨gc, 0, none⟩) (intsN (cs' ++ [r])).length cap] 57)) (Nat.le_refl _) W l o o' hl h h2 h3).cell (p := ⟨w1.heap.size + 1, 0, none⟩) (by simp)⟩) (Below.refl _ _) (by intro _; rfl)
    (fun pre W => Lib.IsBuilderF 164 5 w1.heap.size w1.heap.size (Lib.byteCells (fmtT (intsN (cs' ++ [r])) pre)) W ∧ (Below w1.heap.size w1 W ∧ W.heap[w1.heap.size + 1]? = some (.cells #[.slice (some ⟨gc, 0, none⟩) (intsN (cs' ++ [r])).length cap] 57)))
    (fun _ _ _ => False)
    ?own
    (fun _ _ _ _ _ hs _ _ => hs)
    ?start
    (fun x => { tmps := #[tv 0, .pointer (some ⟨g0, 0, none⟩), tv 2, tv 3, .pointer (some ⟨g10, 0, none⟩), tv 5, tv 6, .pointer (some ⟨w1.heap.size, 0, none⟩), (.int .i64 (Tryz.bw (intsN (cs' ++ [r])) x).1), (.int .u32 (Tryz.bw (intsN (cs' ++ [r])) x).2), tv 10, tv 11, tv 12, tv 13, tv 14, tv 15, tv 16, tv 17, tv 18, tv 19, tv 20, tv 21, tv 22, tv 23, tv 24, tv 25, tv 26, tv 27, tv 28, tv 29, tv 30, tv 31, tv 32, tv 33, tv 34, tv 35, tv 36, tv 37, tv 38, tv 39, tv 40, tv 41, tv 42, tv 43, tv 44, tv 45, tv 46, tv 47, tv 48, tv 49, tv 50, .pointer (some ⟨g0, 0, none⟩), .bool false, tv 53, .slice (some ⟨gc, 0, none⟩) (intsN (cs' ++ [r])).length cap, .func (.func 172) #[] #[.pointer (some ⟨w1.heap.size + 1, 0, none⟩)], (.int .i64 (Tryz.bw (intsN (cs' ++ [r])) x).1), (.int .u32 (Tryz.bw (intsN (cs' ++ [r])) x).2), tv 58, tv 59, tv 60, tv 61, tv 62, tv 63, tv 64, tv 65, tv 66, tv 67, tv 68, tv 69, tv 70, tv 71, tv 72, tv 73], defers := [] }) ?assign ?body ?done ?stop
  case own => exact OwnFrom.and (own_builder _ _) (OwnFrom.and (ownFrom_below (Nat.le_refl _) (by simp; omega)) (own_block _ _))
  case start =>
    refine ⟨.inl ⟨Nat.le_refl _, .slice none 0 0, ?_, World.ownsRowF_nil _ _ _ _, by simp [Value.ownBlock]⟩, hB0, ?_⟩
    rotate_left
    · have := World.alloc_heap_new (w1.alloc (.cells #[.pointer none, .slice none 0 0] 164)) (.cells #[.slice (some ⟨gc, 0, none⟩) (intsN (cs' ++ [r])).length cap] 57)
      rw [hbl] at this; exact this
    exact (Below.heap_alloc _ _ _ (by simp)).trans (World.alloc_heap_new w1 _)
  case assign =>
    intro l x W K hK
    gi_wp2
    exact hK
  case body =>
    rintro l pre x W ⟨hIB, hBW, hBox⟩ hN
    have g149 : (Fence.wide.inRound l).fn 149 := trivial
    have g150 : (Fence.wide.inRound l).fn 150 := trivial
    have g130 : (Fence.wide.inRound l).fn 130 := trivial
    have g151 : (Fence.wide.inRound l).fn 151 := trivial
    obtain ⟨c, hbw, hc9⟩ : ∃ c : Nat, Tryz.bw (intsN (cs' ++ [r])) x = (((intsN (cs' ++ [r])).length : Int) - 1 - x, (c : Int)) ∧ c < 1000000000 := bw_some hcb x
    have hT : fmtT (intsN (cs' ++ [r])) (pre ++ [x]) = fmtT (intsN (cs' ++ [r])) pre ++ (if (((intsN (cs' ++ [r])).length : Int) - 1 - x) < ((intsN (cs' ++ [r])).length : Int) - 1 then pk 9 c else Lib.decDigits c) := by
      rw [fmtT_snoc, hbw]; rfl
    rw [hbw]
    have hpW : Tryz.Pow10 W := fun i hi => by
      have h1 := hp1 i hi
      exact (hBW.cell (p := ⟨2, i, none⟩) (World.block_lt_of_cell? _ _ h1)).trans h1
    have hcw : IntKind.u64.wrap (c : Int) = (c : Int) := by rw [IntKind.wrap_u64]; omega
    have hfu := (callsIn_wide (n := 0)).2 (Tryz.formatUint_any c (by omega) W hpW)
    gi_wp2
    refine (CallsIn.inRound l hfu).mono ?_
    rintro e W2 ⟨rfl, hB2⟩
    have hW0 : Below w1.heap.size w1 W2 := hBW.trans (hB2.mono hBW.size)
    have hc10 : W2.cell? ⟨g10, 0, none⟩ = some (.slice (some ⟨gc, 0, none⟩) (intsN (cs' ++ [r])).length cap) := (hW0.cell (p := ⟨g10, 0, none⟩) hg10).trans hv10
    have hIB2 : Lib.IsBuilderF 164 5 w1.heap.size w1.heap.size (Lib.byteCells (fmtT (intsN (cs' ++ [r])) pre)) W2 :=
      own_builder 0 w1.heap.size (f := fun (l : List UInt8) => Lib.byteCells l) _ W W2 none hIB ⟨hB2.os, hB2.tape, hB2.output, hB2.size, fun k hk _ => hB2.block k hk⟩ (fun r h => by cases h)
    have hlenT : (fmtT (intsN (cs' ++ [r])) pre).length ≤ 20 * pre.length := fmtT_len hcb pre
    have hdl : (Lib.decDigits c).length ≤ 9 := by rw [Lib.decDigits_length]; exact nd_le (by decide) hc9
    have hN' : pre.length < 10000000 := by rw [intsN_len] at hN; omega
    have hbW2 : w1.heap.size ≤ W2.heap.size := hW0.size
    have hbb : ∃ cb fz, W.heap[w1.heap.size]? = some (.cells cb 164 fz) := by
      rcases hIB with ⟨_, v, hb, _⟩ | ⟨_, v, hb, _⟩ <;> exact ⟨_, _, hb⟩
    have hsz : ∀ l : List UInt8, (⟨l.toArray⟩ : ByteArray).size = l.length := fun l => by rw [Lib.size_eq]
    have hwl : wrap64 (((intsN (cs' ++ [r])).length : Int) - 1) = ((intsN (cs' ++ [r])).length : Int) - 1 := wrap64_nn (by rw [intsN_len]; simp) (by rw [intsN_len]; omega)
    by_cases hx : ((intsN (cs' ++ [r])).length : Int) - 1 - x < ((intsN (cs' ++ [r])).length : Int) - 1
    · rw [if_pos hx] at hT
      obtain ⟨z, hz⟩ : ∃ z, z + (Lib.decDigits c).length = 9 := ⟨9 - (Lib.decDigits c).length, by omega⟩
      have hwz : (9 : Int) - ((Lib.decDigits c).length : Int) = (z : Int) := by omega
      have hpk : pk 9 c = List.replicate z 48 ++ Lib.decDigits c := by rw [pk_eq 9 (by decide) hc9, ← Lib.decDigits_length]; congr 2; omega
      gi_wp2
      refine (CallsIn.inRound l ((callsIn_wide (n := 0)).2 (Tryz.zeros z (by omega) W2))).mono ?_
      rintro e W3 ⟨rfl, hB3⟩
      have hIB3 : Lib.IsBuilderF 164 5 w1.heap.size w1.heap.size (Lib.byteCells (fmtT (intsN (cs' ++ [r])) pre)) W3 :=
        own_builder 0 w1.heap.size (f := fun (l : List UInt8) => Lib.byteCells l) _ W2 W3 none hIB2 ⟨hB3.os, hB3.tape, hB3.output, hB3.size, fun k hk _ => hB3.block k hk⟩ (fun r h => by cases h)
      have hb3 : w1.heap.size ≤ W3.heap.size := Nat.le_trans hbW2 hB3.size
      gi_wp2
      refine (CallsIn.inRound l ((callsIn_wide (n := 0)).2 (Tryz.writeString_k w1.heap.size w1.heap.size _ ⟨(List.replicate z (48 : UInt8)).toArray⟩ W3 hIB3 (by rw [Lib.byteCells_length, hsz, List.length_replicate]; omega) hb3))).mono ?_
      rintro e W4 ⟨rfl, hB4, hBe4, hO4⟩
      gi_wp2
      refine (CallsIn.inRound l ((callsIn_wide (n := 0)).2 (Tryz.writeString_k w1.heap.size w1.heap.size _ ⟨(Lib.decDigits c).toArray⟩ W4 (.inr hB4) (by rw [List.length_append, Lib.byteCells_length, Lib.strCells_length, hsz, hsz, List.length_replicate]; omega) (Nat.le_trans hb3 hBe4.size)))).mono ?_
      rintro e W5 ⟨rfl, hB5, hBe5, hO5⟩
      gi_wp2
      obtain ⟨q1, q2, q3⟩ := keeps_write (B := w1.heap.size + 1 + 1) (by omega) (hB2.trans (hB3.mono hB2.size)) hbb hBox (by omega) (hBe4.trans hBe5) (hO4.trans hO5)
      refine ⟨by simpa using q1, q2, ?_, hW0.trans ((hB3.mono hbW2).trans (hBe4.trans hBe5)), q3⟩
      rw [hT, hpk, Lib.byteCells_append, Lib.byteCells_append, ← List.append_assoc]
      exact .inr hB5
    · rw [if_neg hx] at hT
      gi_wp2
      refine (CallsIn.inRound l ((callsIn_wide (n := 0)).2 (Tryz.writeString_k w1.heap.size w1.heap.size _ ⟨(Lib.decDigits c).toArray⟩ W2 hIB2 (by rw [Lib.byteCells_length, hsz]; omega) hbW2))).mono ?_
      rintro e W3 ⟨rfl, hB3, hBe3, hO3⟩
      gi_wp2
      obtain ⟨q1, q2, q3⟩ := keeps_write (B := w1.heap.size + 1 + 1) (by omega) hB2 hbb hBox (by omega) hBe3 hO3
      refine ⟨by simpa using q1, q2, ?_, hW0.trans hBe3, q3⟩
      rw [hT, Lib.byteCells_append]
      exact .inr hB3
  case done =>
    rintro D ys W hD rfl ⟨hIB, hBW, hBox⟩ hK
    have hlaw : fmtT (intsN (cs' ++ [r])) (Tryz.upto (fun i => i) (intsN (cs' ++ [r])).length) = Lib.decDigits n := by
      rw [htxt, intsN_len, List.length_append, List.length_singleton, fmtT_law cs' r cs'.length (Nat.le_refl _), Nat.sub_self, List.drop_zero]
    rw [hlaw] at hIB
    gi_wp2
    refine ((callsIn_wide (n := 2)).2 (Tryz.Builder_String_any_k w1.heap.size w1.heap.size _ W hIB hBW.size)).mono ?_
    rintro e W2 ⟨rfl, hB2, hBe2, hO2⟩
    gi_wp2
    have hK2 : W2.heap[D]? = some (.deferred (some [])) := hO2 D _ hK (fun e => by have := Option.some.inj e; simp at hD; omega) (fun c fz e => by cases e)
    have hBall : Below w1.heap.size w1 W2 := hBW.trans hBe2
    refine ⟨by simp, .inl ⟨_, _, rfl, run_takeDeferred hK2, ?_⟩⟩
    refine ⟨_, results_tmp rfl _ _ _, by rw [htxt]; rfl, ?_⟩
    exact hB01.trans ((hBall.trans (belowK_b (w := w1) (Nat.le_refl _) W2 D _ _ (by simp at hD; omega) hK2 rfl rfl)).mono hB01.size)
  case stop =>
    rintro D c pre W _ _ h _
    exact h.elim
end Go.Proofs
end

section
set_option linter.unusedSimpArgs false
set_option maxRecDepth 100000
namespace Go.Proofs
open Go.VL Go.RowKit
theorem Tryz.format_zpre (G : Nat → Option (List AV)) (ht145 : TrimC Tryz.prog G 145) (hcl : Has Tryz.prog 95 w_slices_Clone_Luint32_uint32)
    {own : Nat → Prop} {E : Env} {w : World} {R : Exit → Act → World → Prop} {c0 c1 c2 rest : Code} (h0 : cCode Tryz.prog c0 = some Tryz.fv0) (h1 : cCode Tryz.prog c1 = some Tryz.fv1) (h2 : cCode Tryz.prog c2 = some Tryz.fv2)
    (hK : ∀ s, s.t[2]? = some (.str [48]) → Ended G [] own E w R .ret s) :
    Cont Tryz.prog G [] own E w (.seq c0 (.seq c1 (.seq c2 rest))) R ⟨IV (0 : Int) :: List.replicate 73 (.tup []), fun _ => none, 0⟩ := by
  have ew : wlen 0 = 0 := by rw [wlen, digits_zero]; rfl
  have hW0 : W 0 = .sl 1 [] := by rw [W, digits_zero]; rfl
  refine Cont.seq h0 ?_
  simp only [Tryz.fv0, SS, Nat.reduceAdd, reduceIte, IV_one]
  refine Cont.seq h1 ?_
  have e0 : (IV (0 : Int)).size = 2 := rfl
  simp only [Tryz.fv1, SS, Nat.reduceAdd, reduceIte, load_put, IV_p1, abs_nat]
  refine vsCall_VP (trimW ht145 0 (by rw [ew]; omega)) (by simp [W_pure]) ?_
  simp only [SS, Nat.reduceAdd, reduceIte]
  refine vsCall_VP (cloneW_ok hcl 0 (by rw [ew]; omega)) (by simp [W_pure]) ?_
  simp only [SS, Nat.reduceAdd, reduceIte]
  refine Cont.seq h2 ?_
  have d0 : decide ((wlen 0 : Int) = 0) = true := by rw [ew]; rfl
  simp only [Tryz.fv2, SS, Nat.reduceAdd, reduceIte, W_len, d0]
  show Ended G [] own E w R .ret _
  exact hK _ (by simp)
theorem Tryz.format_zero (G : Nat → Option (List AV)) (ht145 : TrimC Tryz.prog G 145) (hcl : Has Tryz.prog 95 w_slices_Clone_Luint32_uint32)
    (w : World) (vs : List Value) (ok : Nat → Prop) (hi : VL.Inv G (fun k => w.heap.size ≤ k) ⟨fun _ => none, ok⟩ w (fun _ => none)) (hr : RepL ⟨fun _ => none, ok⟩ w [IV (0 : Int)] vs) :
    Calls Tryz.prog 129 vs.toArray w fun e w' => e = .returned (.string ⟨(Lib.decDigits 0).toArray⟩) ∧ Below w.heap.size w w' := by
  refine calls_of_wp Tryz.func129 rfl ?_
  have hal : vs.length = 1 := RepL.len hr
  have hm : Matched G [] (fun k => w.heap.size ≤ k) ⟨fun _ => none, ok⟩ w ⟨IV (0 : Int) :: List.replicate 73 (.tup []), fun _ => none, 0⟩
      { tmps := vs.toArray ++ Array.replicate (Tryz.f129.ntmps - vs.toArray.size) undef, defers := [] } := by
    refine ⟨?_, hi, fun _ _ _ => rfl, rfl⟩
    show RepL _ w _ _
    simp only [Array.toList_append, Array.toList_replicate, List.size_toArray, hal, Tryz.ntmps129]
    refine RepL.append (xs := [IV (0 : Int)]) (ys := List.replicate 73 (.tup [])) hr (repL_iff.2 ⟨by simp, fun j c hj => ?_⟩)
    have hjl : j < 73 := by have := (List.getElem?_eq_some_iff.1 hj).1; simpa using this
    simp only [List.getElem?_replicate, hjl, if_true, Option.some.injEq] at hj ⊢
    subst hj
    exact ⟨undef, by simp, by simp only [Rep, undef]; exact ⟨#[], rfl, by simp [RepL]⟩⟩
  refine (Tryz.format_zpre G ht145 hcl (own := fun k => w.heap.size ≤ k) (E := ⟨fun _ => none, ok⟩) (w := w) (by kernel_rfl) (by kernel_rfl) (by kernel_rfl) ?_) _ _ _ (AdvP.refl _ _ _ _) hm
  intro s hs E' w1 a1 had hm1
  obtain ⟨v, hv, hrv⟩ := (repL_iff.1 hm1.frame).2 2 _ hs
  simp only [Rep] at hrv
  subst hrv
  refine ⟨hm1.defers, _, results_tmp rfl _ _ _, ?_, ⟨had.os, had.tape, had.output, had.size, fun k hk => had.block k hk (by omega)⟩⟩
  have hz : Lib.decDigits 0 = [48] := by rw [dd_small (by decide)]; rfl
  rw [hz]
  have e : a1.tmps.getD 2 undef = .string ⟨#[48]⟩ := by
    rw [Array.getElem?_toList] at hv
    simp only [Array.getD_eq_getD_getElem?, hv]; rfl
  exact congrArg Ending.returned e
def pow10A : List AV := (List.range 20).map fun i => .int .u64 ((10 ^ i : Nat) : Int)
theorem Tryz.pow10_of {G : Nat → Option (List AV)} (hG : G 2 = some pow10A) {own : Nat → Prop} {E : Env} {w : World} {σ : Store} (hi : VL.Inv G own E w σ) : Tryz.Pow10 w := by
  have h := (hi.glob 2 _ hG).2
  intro i hi
  obtain ⟨v, hv, hr⟩ := (repCells_iff.1 h) i _ (by unfold pow10A; rw [List.getElem?_map, List.getElem?_range hi]; rfl)
  simp only [Rep] at hr
  rw [Nat.zero_add] at hv
  rw [hv, hr]
theorem Tryz.format_vp (G : Nat → Option (List AV)) (hG : G 2 = some pow10A) (ht145 : TrimC Tryz.prog G 145) (htr : Has Tryz.prog 145 w_integer_trim) (hcl : Has Tryz.prog 95 w_slices_Clone_Luint32_uint32) (n : Nat) (hn : wlen n ≤ 1000000) :
    VP Tryz.prog G 129 [IV (n : Int)] (.str (Lib.decDigits n)) := by
  refine ⟨⟨_, Tryz.func129, by kernel_rfl, by kernel_rfl⟩, fun w vs ok hi hr => ?_⟩
  have key : Calls Tryz.prog 129 vs.toArray w fun e w' => e = .returned (.string ⟨(Lib.decDigits n).toArray⟩) ∧ Below w.heap.size w w' := by
    by_cases h0 : n = 0
    · subst h0; exact Tryz.format_zero G ht145 hcl w vs ok hi hr
    · exact Tryz.format_at G n h0 hn ht145 htr hcl w vs ok hi hr (Tryz.pow10_of hG hi)
  refine key.mono ?_
  rintro e w' ⟨rfl, hB⟩
  exact ⟨_, ok, rfl, ⟨⟨fun _ _ h => h, fun _ h => h, fun b hb => hB.block b (hi.okb b hb)⟩, hB.os, hB.tape, hB.output, hB.size, fun k hk _ => hB.block k hk, fun _ h => .inl h⟩, fun b hb => Nat.lt_of_lt_of_le (hi.okb b hb) hB.size, by simp only [Rep]⟩
theorem Tryz.repeat_vp (G : Nat → Option (List AV)) (z : Nat) (hz : z ≤ 1000) : VP Tryz.prog G 130 [.str [48], .int .i64 (z : Int)] (.str (List.replicate z 48)) := by
  refine VP.of_call (r := { val := .str (List.replicate z 48) }) (CallRel.of_below Tryz.func130 (by kernel_rfl) (by kernel_rfl) ?_) (fun _ _ _ _ _ => by simp only [Rep]; exact id)
  intro own E w σ vs _ hi hr
  simp only [RepL] at hr
  obtain ⟨v, _, rfl, rfl, v2, _, rfl, rfl, rfl⟩ := hr
  refine (Tryz.zeros z hz w).mono ?_
  rintro e W' ⟨rfl, hB⟩
  exact ⟨_, rfl, hB, fun E w => by simp only [Rep]⟩
end Go.Proofs
end

section
set_option linter.unusedSimpArgs false
namespace Go.VL
open Go.Lib
def decGo : Nat → Nat → Nat → Nat → Option (Nat × Nat)
  | 0, _, _, _ => none
  | n + 1, p, a, b => if b = 1 then some (p, a) else decGo n (p + 1) (10 * a / Nat.gcd (10 * a) b) (b / Nat.gcd (10 * a) b)
def decPad (p m : Nat) : List UInt8 := List.replicate (p + 1 - (decDigits m).length) 48 ++ decDigits m
def decStr (p m : Nat) : List UInt8 := if p = 0 then decDigits m else (decPad p m).take ((decPad p m).length - p) ++ [46] ++ (decPad p m).drop ((decPad p m).length - p)
def decTup (lim a b : Nat) : AV := match decGo lim 0 a b with
  | none => .tup [.str [], .bool false]
  | some (p, m) => .tup [.str (decStr p m), .bool (decide ((decStr p m).length ≤ 40))]
def decOk (lim a b : Nat) : Bool := match decGo lim 0 a b with
  | none => false
  | some (p, m) => decide ((decStr p m).length ≤ 40)
theorem decGo_succ : ∀ (n p a b : Nat), decGo (n + 1) p a b = decGo n p a b ∨ (decGo n p a b = none ∧ ∃ m, decGo (n + 1) p a b = some (p + n, m))
  | 0, p, a, b => by
    by_cases h : b = 1
    · right; exact ⟨rfl, a, by simp [decGo, h]⟩
    · left; simp [decGo, h]
  | n + 1, p, a, b => by
    by_cases h : b = 1
    · left; simp [decGo, h]
    · have f1 : decGo (n + 1 + 1) p a b = decGo (n + 1) (p + 1) (10 * a / Nat.gcd (10 * a) b) (b / Nat.gcd (10 * a) b) := by rw [decGo, if_neg h]
      have f2 : decGo (n + 1) p a b = decGo n (p + 1) (10 * a / Nat.gcd (10 * a) b) (b / Nat.gcd (10 * a) b) := by rw [decGo, if_neg h]
      rw [f1, f2]
      rcases decGo_succ n (p + 1) (10 * a / Nat.gcd (10 * a) b) (b / Nat.gcd (10 * a) b) with e | ⟨e1, m, e2⟩
      · exact .inl e
      · exact .inr ⟨e1, m, by rw [e2, show p + 1 + n = p + (n + 1) from by omega]⟩
theorem decPad_len (p m : Nat) : p + 1 ≤ (decPad p m).length := by unfold decPad; rw [List.length_append, List.length_replicate]; omega
theorem decStr_len (p m : Nat) (hp : p ≠ 0) : (decStr p m).length = (decPad p m).length + 1 := by
  unfold decStr; rw [if_neg hp]
  have := decPad_len p m
  simp only [List.length_append, List.length_take, List.length_drop, List.length_singleton]; omega
theorem decOk_lim (a b : Nat) : decOk 41 a b = decOk 40 a b := by
  unfold decOk
  rcases decGo_succ 40 0 a b with e | ⟨e1, m, e2⟩
  · rw [e]
  · rw [e1, e2]
    have h1 := decPad_len (0 + 40) m
    have h2 := decStr_len (0 + 40) m (by decide)
    exact decide_eq_false (by omega)
theorem RV_all (a b : Int) : part true (RV a b).cells 0 4 = some (RV a b) := rfl
theorem RR_all (n1 : Bool) (w1 : List Nat) (n2 : Bool) (w2 : List Nat) : part true (RR n1 w1 n2 w2).cells 0 4 = some (RR n1 w1 n2 w2) := rfl
theorem store_RVV {σ : Store} {id : Id} {k : Nat} {x y a b : Int} (h : σ id = some ⟨[RV x y], k, false⟩) : vstore σ 4 (.ref id 0 0) (RV a b) = some { val := .tup [], rd := [id], up := [(id, some ⟨[RV a b], k, false⟩)] } := by
  rw [vstore_at (n := 4) (v := RV a b) h rfl rfl (by simp [AV.size, AV.cells, RV]) rfl]
  rfl
theorem decRes_pure (s : List UInt8) (b : Bool) : PureAV (.tup [.str s, .bool b]) := PureAV.tup (by intro c hc; simp at hc; rcases hc with rfl | rfl; exact PureAV.str _; exact PureAV.bool _)
theorem sliceS_hi {s : List UInt8} {l : Nat} (h : l ≤ s.length) : vsliceS (.str s) none (some (.int .i64 (l : Int))) = some (.str (s.take l)) := by
  simp [vsliceS, vbounds, vbound, h]
theorem sliceS_lo {s : List UInt8} {l : Nat} (h : l ≤ s.length) : vsliceS (.str s) (some (.int .i64 (l : Int))) none = some (.str (s.drop l)) := by
  simp [vsliceS, vbounds, vbound, h]
theorem pow_le_aux {a b c n m : Nat} (h : a ≤ b ^ c) (hb : 0 < b) (hm : c * n ≤ m) : a ^ n ≤ b ^ m :=
  Nat.le_trans (Nat.pow_le_pow_left h n) (by rw [← Nat.pow_mul]; exact Nat.pow_le_pow_right hb hm)
theorem dd_len_aux {x n k : Nat} (hk : 0 < k) (hx : wlen x ≤ n) (h : 10 * n ≤ k) : (decDigits x).length ≤ k := by
  rw [decDigits_length]
  exact nd_le hk (Nat.lt_of_lt_of_le (lt_pow_wlen x) (Nat.le_trans (Nat.pow_le_pow_right B32_pos hx) (pow_le_aux (c := 10) (by decide) (by decide) h)))
theorem dd_len_le {x : Nat} (h : wlen x ≤ 100) : (decDigits x).length ≤ 1000 := dd_len_aux (by decide) h (by decide)
theorem bstr_add {a b : List UInt8} (h : a.length + b.length ≤ maxLen) : vbinq .add .str (.str a) (.str b) = some (.str (a ++ b)) := by simp [vbinq, vbin, vstr, h]
theorem dec_step {a b : Nat} (hb : b ≠ 0) : b / Nat.gcd (10 * a) b ≠ 0 ∧ Nat.gcd (10 * a / Nat.gcd (10 * a) b) (b / Nat.gcd (10 * a) b) = 1 ∧ 10 * a / Nat.gcd (10 * a) b ≤ 10 * a ∧ b / Nat.gcd (10 * a) b ≤ b := by
  have hg : 0 < Nat.gcd (10 * a) b := Nat.gcd_pos_of_pos_right _ (Nat.pos_of_ne_zero hb)
  refine ⟨?_, Nat.coprime_div_gcd_div_gcd hg, Nat.div_le_self _ _, Nat.div_le_self _ _⟩
  have : 0 < b / Nat.gcd (10 * a) b := Nat.div_pos (Nat.le_of_dvd (Nat.pos_of_ne_zero hb) (Nat.gcd_dvd_right _ _)) hg
  omega
section
variable {P : Program} {G : Nat → Option (List AV)}
theorem decimal_go {f fV fS fRI fI fC fM fF fR : FuncId} (h : Has P f (w_formula_decimal fV fS fRI fI fC fM fF fR)) (a b : Nat) (hb : b ≠ 0) (hg : Nat.gcd a b = 1) (ha : wlen a ≤ 8) (hwb : wlen b ≤ 8)
    (hv : VP P G fV [RV (a : Int) (b : Int)] (.bool true)) (hs : VP P G fS [RV (a : Int) (b : Int)] (.int .i64 (a : Int).sign)) (hri : VP P G fRI [.int .i64 10] (RV 10 1)) (hi : VP P G fI [.int .i64 1] (IV 1))
    (hc : ∀ y : Nat, wlen y ≤ 1000 → VP P G fC [IV (y : Int), IV 1] (.int .i64 (cmpI y 1)))
    (hm : ∀ a b : Nat, b ≠ 0 → Nat.gcd a b = 1 → wlen a ≤ 1000 → wlen b ≤ 1000 → VP P G fM [RV (a : Int) (b : Int), RV 10 1] (RV ((10 * a / Nat.gcd (10 * a) b : Nat) : Int) ((b / Nat.gcd (10 * a) b : Nat) : Int)))
    (hf : ∀ n : Nat, wlen n ≤ 1000 → VP P G fF [IV (n : Int)] (.str (decDigits n))) (hr : ∀ z : Nat, z ≤ 1000 → VP P G fR [.str [48], .int .i64 (z : Int)] (.str (List.replicate z 48))) :
    VP P G f [RV (a : Int) (b : Int)] (decTup 40 a b) := by
  refine VP.has h ?_
  have d0 : decide ((a : Int).sign < 0) = false := dec_false (by rcases sign_cases (a : Int) with ⟨e, p⟩ | ⟨e, p⟩ | ⟨e, p⟩ <;> omega)
  simp only [w_formula_decimal, SS, Nat.reduceAdd, reduceIte, RV_one, load_put, RV_all]
  refine vsCall_VP hv (by simp [RV_pure]) ?_
  simp only [SS, Nat.reduceAdd, reduceIte, load_put, RV_all]
  refine vsCall_VP hs (by simp [RV_pure]) ?_
  simp only [SS, Nat.reduceAdd, reduceIte, d0]
  refine vsCall_VP hri (by simp [PureAV.int]) ?_
  simp only [SS, Nat.reduceAdd, reduceIte, zeroR_one]
  rw [store_RV' (k := (AV.agg [.bool false, .nils, .bool false, .nils]).size) (by simp [Store.put])]
  simp only [SS, Nat.reduceAdd, reduceIte]
  refine vsCall_VP hi (by simp [PureAV.int]) ?_
  simp only [SS, Nat.reduceAdd, reduceIte, zeroI_one]
  rw [store_IV' (k := (AV.agg [.bool false, .nils]).size) (y := .agg [.bool false, .nils]) rfl (Z_upd _) (by simp [Store.put])]
  simp only [SS, Nat.reduceAdd, reduceIte, vwp_loop]
  refine VW.loopQ (α := Nat × Nat × Nat × Nat) (fun x => ⟨[RV (a : Int) (b : Int), .ref [0] 0 0, .str [], .bool false, .ref [12] 0 0, .ref [15] 0 0, .int .i64 ((x.1 : Nat) : Int)] ++ List.replicate 58 .top,
    ((Store.put (fun _ => none) [0] (some ⟨[RV (x.2.1 : Int) (x.2.2.1 : Int)], 4, false⟩)).put [12] (some ⟨[RV 10 1], 4, false⟩)).put [15] (some ⟨[IV 1], 2, false⟩), x.2.2.2⟩)
    (fun x => x.1 ≤ 40 ∧ x.2.2.1 ≠ 0 ∧ Nat.gcd x.2.1 x.2.2.1 = 1 ∧ wlen x.2.1 ≤ 8 + x.1 ∧ wlen x.2.2.1 ≤ 8 ∧ decGo 40 0 a b = decGo (40 - x.1) x.1 x.2.1 x.2.2.1) (fun x => 40 - x.1) (0, a, b, 1000) ?_ ?_ ?_
  · refine Wk.forget (by simp [Fg, List.replicate]) (fun j => ?_) (by simp only []; omega)
    by_cases h1 : j = [15]
    · subst h1; right; simp [Store.put]; rfl
    by_cases h2 : j = [12]
    · subst h2; right; simp [Store.put]; rfl
    by_cases h3 : j = [0]
    · subst h3; right; simp [Store.put]; rfl
    · left; simp [Store.put, h1, h2, h3]
  · exact ⟨Nat.zero_le _, hb, hg, ha, hwb, rfl⟩
  rintro ⟨p, x, y, nn⟩ ⟨hp, hy, hgc, hwx, hwy, hgo⟩
  simp only [] at hp hy hgc hwx hwy hgo
  unfold decTup
  rw [hgo]
  by_cases hp40 : p < 40
  case neg =>
    have dp : decide ((p : Int) < 40) = false := dec_false (by omega)
    rw [show 40 - p = 0 from by omega]
    simp only [SS, Nat.reduceAdd, reduceIte, dp, decGo]
    exact retQ_ret ▸ retQ_of_pure rfl (decRes_pure _ _)
  have dp : decide ((p : Int) < 40) = true := dec_true (by omega)
  obtain ⟨m, hm40⟩ : ∃ m, 40 - p = m + 1 := ⟨40 - p - 1, by omega⟩
  rw [hm40]
  have k1 : ([0] : List Nat) ≠ [12] := by decide
  have k2 : ([0] : List Nat) ≠ [15] := by decide
  have k3 : ([12] : List Nat) ≠ [15] := by decide
  simp only [SS, Nat.reduceAdd, reduceIte, dp, load_skip k1, load_skip k2, load_skip k3, load_put, RV_p2, IV_all]
  refine vsCall_VP (hc y (by omega)) (by simp [IV_pure]) ?_
  by_cases hy1 : y = 1
  · have dc : decide (cmpI (y : Int) 1 ≠ 0) = false := dec_false (by rw [hy1]; decide)
    simp only [SS, Nat.reduceAdd, reduceIte, dc]
    have hres : decGo (m + 1) p x y = some (p, x) := by rw [decGo, if_pos hy1]
    have hdl := dd_len_le (x := x) (by omega)
    rw [hres]
    simp only [SS, Nat.reduceAdd, reduceIte, dc, load_skip k1, load_skip k2, load_skip k3, load_put, RV_p0, IV_all]
    refine vsCall_VP (hf x (by omega)) (by simp [IV_pure]) ?_
    have hfin : ∀ (t : List UInt8), t.length ≤ 2000 → (decide ((t.length : Int) ≤ 40)) = decide (t.length ≤ 40) := fun t _ => by by_cases h : t.length ≤ 40 <;> simp [h] <;> omega
    by_cases hp0 : p = 0
    · subst hp0
      have d1 : decide ((0 : Int) < ((0 : Nat) : Int)) = false := by decide
      have e0 : decStr 0 x = decDigits x := if_pos rfl
      simp only [SS, Nat.reduceAdd, reduceIte, d1, e0]
      rw [hfin _ (by omega)]
      exact retQ_ret ▸ retQ_of_pure rfl (decRes_pure _ _)
    · have d1 : decide ((0 : Int) < (p : Int)) = true := dec_true (by omega)
      have hpl := decPad_len p x
      have e0 : decStr p x = (decPad p x).take ((decPad p x).length - p) ++ [46] ++ (decPad p x).drop ((decPad p x).length - p) := if_neg hp0
      have hL := decStr_len p x hp0
      have hsub : ∀ q : Nat, q ≤ 1100 → p ≤ q → IntKind.i64.wrap ((q : Int) - (p : Int)) = ((q - p : Nat) : Int) := fun q h1 h2 => by rw [IntKind.wrap_i64]; omega
      have hpd : (decPad p x).length ≤ 1100 := by unfold decPad; rw [List.length_append, List.length_replicate]; omega
      have hw1 : IntKind.i64.wrap ((p : Int) + 1) = ((p + 1 : Nat) : Int) := by rw [IntKind.wrap_i64]; omega
      have hw2 : IntKind.i64.wrap (((p + 1 : Nat) : Int) - ((decDigits x).length : Int)) = ((p + 1 : Nat) : Int) - ((decDigits x).length : Int) := by rw [IntKind.wrap_i64]; omega
      have hs2 := hsub _ hpd (by omega)
      have b1 := sliceS_hi (s := decPad p x) (l := (decPad p x).length - p) (by omega)
      have b2 := sliceS_lo (s := decPad p x) (l := (decPad p x).length - p) (by omega)
      have hap : vbinq .add .str (.str ((decPad p x).take ((decPad p x).length - p))) (.str [46]) = some (.str ((decPad p x).take ((decPad p x).length - p) ++ [46])) := bstr_add (by rw [List.length_take]; simp [maxLen]; omega)
      have hap2 : vbinq .add .str (.str ((decPad p x).take ((decPad p x).length - p) ++ [46])) (.str ((decPad p x).drop ((decPad p x).length - p))) = some (.str (decStr p x)) := by rw [e0]; exact bstr_add (by rw [List.length_append, List.length_take, List.length_drop]; simp [maxLen]; omega)
      by_cases hn : (decDigits x).length ≤ p
      · have d2 : decide ((0 : Int) < ((p + 1 - (decDigits x).length : Nat) : Int)) = true := dec_true (by omega)
        have ez : ((p + 1 : Nat) : Int) - ((decDigits x).length : Int) = ((p + 1 - (decDigits x).length : Nat) : Int) := by omega
        have epd : vbinq .add .str (.str (List.replicate (p + 1 - (decDigits x).length) 48)) (.str (decDigits x)) = some (.str (decPad p x)) := bstr_add (by rw [List.length_replicate]; simp [maxLen]; omega)
        have hw3 : IntKind.i64.wrap ((p + 1 - (decDigits x).length : Nat) : Int) = ((p + 1 - (decDigits x).length : Nat) : Int) := by rw [IntKind.wrap_i64]; omega
        simp only [SS, Nat.reduceAdd, reduceIte, d1, hw1, hw3, d2, ez]
        refine vsCall_VP (hr (p + 1 - (decDigits x).length) (by omega)) (by simp [PureAV.str, PureAV.int]) ?_
        simp only [SS, DD, Nat.reduceAdd, reduceIte, epd, hs2, b1, b2, hap, hap2]
        refine ⟨by simp [allApart, apart], ?_⟩
        rw [hfin _ (by omega)]
        exact retQ_ret ▸ retQ_of_pure rfl (decRes_pure _ _)
      · have d2 : decide ((0 : Int) < ((p + 1 : Nat) : Int) - ((decDigits x).length : Int)) = false := dec_false (by omega)
        have epd : decDigits x = decPad p x := by unfold decPad; rw [show p + 1 - (decDigits x).length = 0 from by omega]; rfl
        simp only [SS, Nat.reduceAdd, reduceIte, d1, hw1, hw2, d2]
        rw [epd]
        simp only [SS, DD, Nat.reduceAdd, reduceIte, hs2, b1, b2, hap, hap2]
        refine ⟨by simp [allApart, apart], ?_⟩
        rw [hfin _ (by omega)]
        exact retQ_ret ▸ retQ_of_pure rfl (decRes_pure _ _)
  · have dc : decide (cmpI (y : Int) 1 ≠ 0) = true := dec_true (by unfold cmpI; split; · decide
                                                                   split; · decide
                                                                   omega)
    simp only [SS, Nat.reduceAdd, reduceIte, dc, load_skip k1, load_skip k2, load_skip k3, load_put, RV_all]
    refine vsCall_VP (hm x y hy hgc (by omega) (by omega)) (by simp [RV_pure]) ?_
    simp only [SS, Nat.reduceAdd, reduceIte]
    rw [store_RVV (k := 4) (x := (x : Int)) (y := (y : Int)) (by simp [Store.put])]
    simp only [SS, Nat.reduceAdd, reduceIte]
    obtain ⟨r1, r2, r3, r4⟩ := dec_step (a := x) (b := y) hy
    have hwp : IntKind.i64.wrap ((p : Int) + 1) = ((p + 1 : Nat) : Int) := by rw [IntKind.wrap_i64]; omega
    have hwx' : wlen (10 * x / Nat.gcd (10 * x) y) ≤ 8 + (p + 1) := by
      have h1 := wlen_mono r3
      have h2 := wlen_mul 10 x
      have h3 : wlen 10 ≤ 1 := wlen_le (by decide)
      omega
    have hwy' : wlen (y / Nat.gcd (10 * x) y) ≤ 8 := Nat.le_trans (wlen_mono r4) hwy
    have hgo' : decGo (m + 1) p x y = decGo (40 - (p + 1)) (p + 1) (10 * x / Nat.gcd (10 * x) y) (y / Nat.gcd (10 * x) y) := by
      rw [show 40 - (p + 1) = m from by omega, decGo, if_neg hy1]
    simp only [hwp]
    refine ⟨(p + 1, 10 * x / Nat.gcd (10 * x) y, y / Nat.gcd (10 * x) y, nn + 1000), ⟨by simp only []; omega, r1, r2, hwx', hwy', hgo'⟩, by simp only []; omega, ?_⟩
    refine Wk.forget (by simp [Fg, List.replicate]) (fun j => ?_) (by simp only []; omega)
    by_cases h1 : j = [15]
    · subst h1; right; simp [Store.put]
    by_cases h2 : j = [12]
    · subst h2; right; simp [Store.put]
    by_cases h3 : j = [0]
    · subst h3; right; simp [Store.put]
    · left; simp [Store.put, h1, h2, h3]
end
end Go.VL
end

section
set_option linter.unusedSimpArgs false
namespace Go.VL
open Go.Lib
theorem dd_pos (n : Nat) : 1 ≤ (decDigits n).length := by
  by_cases h : n < 10
  · rw [dd_small h]; exact Nat.le_refl _
  · rw [dd_big h, List.length_append, List.length_singleton]; omega
section
variable {P : Program} {G : Nat → Option (List AV)}
theorem rdecimal_go {f fV fS fRI fI fE fF fM : FuncId} (h : Has P f (w_setsquareref22_Decimal fV fS fRI fI fE fF fM)) (a b : Nat) (hb : b ≠ 0) (hg : Nat.gcd a b = 1) (ha : wlen a ≤ 8) (hwb : wlen b ≤ 8)
    (hv : VP P G fV [RV (a : Int) (b : Int)] (.bool true)) (hs : VP P G fS [RV (a : Int) (b : Int)] (.int .i64 (a : Int).sign)) (hri : VP P G fRI [.int .i64 10] (RV 10 1)) (hi : VP P G fI [.int .i64 1] (IV 1))
    (hc : ∀ y : Nat, wlen y ≤ 1000 → VP P G fE [IV (y : Int), IV 1] (.bool (decide ((y : Int) = 1))))
    (hm : ∀ a b : Nat, b ≠ 0 → b ≠ 1 → Nat.gcd a b = 1 → wlen a ≤ 1000 → wlen b ≤ 1000 → VP P G fM [RV (a : Int) (b : Int), RV 10 1] (RV ((10 * a / Nat.gcd (10 * a) b : Nat) : Int) ((b / Nat.gcd (10 * a) b : Nat) : Int)))
    (hf : ∀ n : Nat, wlen n ≤ 1000 → VP P G fF [IV (n : Int)] (.str (decDigits n))) :
    VP P G f [RV (a : Int) (b : Int)] (decTup 41 a b) := by
  refine VP.has h ?_
  have d0 : decide ((a : Int).sign < 0) = false := dec_false (by rcases sign_cases (a : Int) with ⟨e, p⟩ | ⟨e, p⟩ | ⟨e, p⟩ <;> omega)
  simp only [w_setsquareref22_Decimal, SS, Nat.reduceAdd, reduceIte, RV_one, load_put, RV_all]
  refine vsCall_VP hv (by simp [RV_pure]) ?_
  simp only [SS, Nat.reduceAdd, reduceIte, load_put, RV_all]
  refine vsCall_VP hs (by simp [RV_pure]) ?_
  simp only [SS, Nat.reduceAdd, reduceIte, d0]
  refine vsCall_VP hri (by simp [PureAV.int]) ?_
  simp only [SS, Nat.reduceAdd, reduceIte, zeroR_one]
  rw [store_RV' (k := (AV.agg [.bool false, .nils, .bool false, .nils]).size) (by simp [Store.put])]
  simp only [SS, Nat.reduceAdd, reduceIte]
  refine vsCall_VP hi (by simp [PureAV.int]) ?_
  simp only [SS, Nat.reduceAdd, reduceIte, zeroI_one]
  rw [store_IV' (k := (AV.agg [.bool false, .nils]).size) (y := .agg [.bool false, .nils]) rfl (Z_upd _) (by simp [Store.put])]
  have k1 : ([0] : List Nat) ≠ [12] := by decide
  have k2 : ([0] : List Nat) ≠ [15] := by decide
  simp only [SS, Nat.reduceAdd, reduceIte, load_skip k1, load_skip k2, load_put, RV_all, zeroR_one]
  rw [store_RV' (k := (AV.agg [.bool false, .nils, .bool false, .nils]).size) (by simp [Store.put])]
  simp only [SS, Nat.reduceAdd, reduceIte, vwp_loop]
  refine VW.loopQ (α := Nat × Nat × Nat × Nat) (fun x => ⟨[RV (a : Int) (b : Int), .ref [0] 0 0, .str [], .bool false, .ref [12] 0 0, .ref [15] 0 0, .ref [18] 0 0, .int .i64 ((x.1 : Nat) : Int)] ++ List.replicate 52 .top,
    ((Store.put (fun _ => none) [12] (some ⟨[RV 10 1], 4, false⟩)).put [15] (some ⟨[IV 1], 2, false⟩)).put [18] (some ⟨[RV (x.2.1 : Int) (x.2.2.1 : Int)], 4, false⟩), x.2.2.2⟩)
    (fun x => x.1 ≤ 41 ∧ x.2.2.1 ≠ 0 ∧ Nat.gcd x.2.1 x.2.2.1 = 1 ∧ wlen x.2.1 ≤ 8 + x.1 ∧ wlen x.2.2.1 ≤ 8 ∧ decGo 41 0 a b = decGo (41 - x.1) x.1 x.2.1 x.2.2.1) (fun x => 41 - x.1) (0, a, b, 1000) ?_ ?_ ?_
  · refine Wk.forget (by simp [Fg, List.replicate]) (fun j => ?_) (by simp only []; omega)
    by_cases h1 : j = [15]
    · subst h1; right; simp [Store.put]; rfl
    by_cases h2 : j = [12]
    · subst h2; right; simp [Store.put]; rfl
    by_cases h3 : j = [18]
    · subst h3; right; simp [Store.put]; rfl
    · left; simp [Store.put, h1, h2, h3]
  · exact ⟨Nat.zero_le _, hb, hg, ha, hwb, rfl⟩
  rintro ⟨p, x, y, nn⟩ ⟨hp, hy, hgc, hwx, hwy, hgo⟩
  simp only [] at hp hy hgc hwx hwy hgo
  unfold decTup
  rw [hgo]
  by_cases hp40 : p < 41
  case neg =>
    have dp : decide ((p : Int) ≤ 40) = false := dec_false (by omega)
    rw [show 41 - p = 0 from by omega]
    simp only [SS, Nat.reduceAdd, reduceIte, dp, decGo]
    exact retQ_ret ▸ retQ_of_pure rfl (decRes_pure _ _)
  have dp : decide ((p : Int) ≤ 40) = true := dec_true (by omega)
  obtain ⟨m, hm40⟩ : ∃ m, 41 - p = m + 1 := ⟨41 - p - 1, by omega⟩
  rw [hm40]
  have k1 : ([12] : List Nat) ≠ [18] := by decide
  have k2 : ([15] : List Nat) ≠ [18] := by decide
  have k3 : ([12] : List Nat) ≠ [15] := by decide
  simp only [SS, Nat.reduceAdd, reduceIte, dp, load_skip k1, load_skip k2, load_skip k3, load_put, RV_p2, IV_all]
  refine vsCall_VP (hc y (by omega)) (by simp [IV_pure]) ?_
  by_cases hy1 : y = 1
  · have dc : decide ((y : Int) = 1) = true := dec_true (by omega)
    have hres : decGo (m + 1) p x y = some (p, x) := by rw [decGo, if_pos hy1]
    have hdl := dd_len_le (x := x) (by omega)
    have hd1 : 1 ≤ (decDigits x).length := dd_pos x
    rw [hres]
    simp only [SS, Nat.reduceAdd, reduceIte, dc, load_skip k1, load_skip k2, load_skip k3, load_put, RV_p0, IV_all]
    refine vsCall_VP (hf x (by omega)) (by simp [IV_pure]) ?_
    have hfin : ∀ (t : List UInt8), t.length ≤ 2000 → (decide ((t.length : Int) ≤ 40)) = decide (t.length ≤ 40) := fun t _ => by by_cases h : t.length ≤ 40 <;> simp [h] <;> omega
    simp only [SS, Nat.reduceAdd, reduceIte, vwp_loop]
    refine VW.loopQ (α := Nat × Nat) (fun z => ⟨[RV (a : Int) (b : Int), .ref [0] 0 0, .str [], .bool false, .ref [12] 0 0, .ref [15] 0 0, .ref [18] 0 0, .int .i64 ((p : Nat) : Int), .str (List.replicate z.1 48 ++ decDigits x)] ++ List.replicate 51 .top, fun _ => none, z.2⟩)
      (fun z => z.1 ≤ p + 1 - (decDigits x).length) (fun z => p + 1 - z.1) (0, nn + 1000) ?_ ?_ ?_
    · exact Wk.forget (by simp [Fg, List.replicate]) (fun j => .inl rfl) (by simp only []; omega)
    · exact Nat.zero_le _
    rintro ⟨j, mm⟩ hj
    simp only [] at hj
    have hlen : (List.replicate j (48 : UInt8) ++ decDigits x).length = j + (decDigits x).length := by rw [List.length_append, List.length_replicate]
    by_cases hlt : j + (decDigits x).length ≤ p
    · have d1 : decide (((j + (decDigits x).length : Nat) : Int) ≤ (p : Int)) = true := dec_true (by omega)
      have happ : vbinq .add .str (.str [48]) (.str (List.replicate j 48 ++ decDigits x)) = some (.str (List.replicate (j + 1) 48 ++ decDigits x)) := by rw [List.replicate_succ, List.cons_append]; exact bstr_add (by rw [hlen]; simp [maxLen]; omega)
      simp only [SS, Nat.reduceAdd, reduceIte, hlen, d1, happ]
      exact ⟨(j + 1, _), by simp only []; omega, by simp only []; omega, Wk.slots (by simp [Fg, List.replicate]) (Nat.le_refl _)⟩
    · have d1 : decide (((j + (decDigits x).length : Nat) : Int) ≤ (p : Int)) = false := dec_false (by omega)
      have ej : List.replicate j 48 ++ decDigits x = decPad p x := by unfold decPad; rw [show p + 1 - (decDigits x).length = j from by omega]
      have hpd : (decPad p x).length ≤ 1100 := by unfold decPad; rw [List.length_append, List.length_replicate]; omega
      rw [← hlen] at d1
      rw [ej] at d1 ⊢
      by_cases hp0 : p = 0
      · subst hp0
        have d2 : decide ((0 : Int) < ((0 : Nat) : Int)) = false := by decide
        have e0 : decStr 0 x = decPad 0 x := by unfold decPad; rw [show 0 + 1 - (decDigits x).length = 0 from by omega]; exact if_pos rfl
        rw [e0]
        simp only [SS, Nat.reduceAdd, reduceIte, d1, d2]
        rw [hfin _ (by omega)]
        exact retQ_ret ▸ retQ_of_pure rfl (decRes_pure _ _)
      · have d2 : decide ((0 : Int) < (p : Int)) = true := dec_true (by omega)
        have hpl := decPad_len p x
        have e0 : decStr p x = (decPad p x).take ((decPad p x).length - p) ++ [46] ++ (decPad p x).drop ((decPad p x).length - p) := if_neg hp0
        have hL := decStr_len p x hp0
        have hsub : ∀ q : Nat, q ≤ 1100 → p ≤ q → IntKind.i64.wrap ((q : Int) - (p : Int)) = ((q - p : Nat) : Int) := fun q h1 h2 => by rw [IntKind.wrap_i64]; omega
        have hs2 := hsub _ hpd (by omega)
        have b1 := sliceS_hi (s := decPad p x) (l := (decPad p x).length - p) (by omega)
        have b2 := sliceS_lo (s := decPad p x) (l := (decPad p x).length - p) (by omega)
        have hap : vbinq .add .str (.str ((decPad p x).take ((decPad p x).length - p))) (.str [46]) = some (.str ((decPad p x).take ((decPad p x).length - p) ++ [46])) := bstr_add (by rw [List.length_take]; simp [maxLen]; omega)
        have hap2 : vbinq .add .str (.str ((decPad p x).take ((decPad p x).length - p) ++ [46])) (.str ((decPad p x).drop ((decPad p x).length - p))) = some (.str (decStr p x)) := by rw [e0]; exact bstr_add (by rw [List.length_append, List.length_take, List.length_drop]; simp [maxLen]; omega)
        simp only [SS, DD, Nat.reduceAdd, reduceIte, d1, d2, hs2, b1, b2, hap, hap2]
        refine ⟨by simp [allApart, apart], ?_⟩
        rw [hfin _ (by omega)]
        exact retQ_ret ▸ retQ_of_pure rfl (decRes_pure _ _)
  · have dc : decide ((y : Int) = 1) = false := dec_false (by omega)
    simp only [SS, Nat.reduceAdd, reduceIte, dc, load_skip k1, load_skip k2, load_skip k3, load_put, RV_all]
    refine vsCall_VP (hm x y hy hy1 hgc (by omega) (by omega)) (by simp [RV_pure]) ?_
    simp only [SS, Nat.reduceAdd, reduceIte]
    rw [store_RVV (k := 4) (x := (x : Int)) (y := (y : Int)) (by simp [Store.put])]
    simp only [SS, Nat.reduceAdd, reduceIte]
    obtain ⟨r1, r2, r3, r4⟩ := dec_step (a := x) (b := y) hy
    have hwp : IntKind.i64.wrap ((p : Int) + 1) = ((p + 1 : Nat) : Int) := by rw [IntKind.wrap_i64]; omega
    have hwx' : wlen (10 * x / Nat.gcd (10 * x) y) ≤ 8 + (p + 1) := by
      have h1 := wlen_mono r3
      have h2 := wlen_mul 10 x
      have h3 : wlen 10 ≤ 1 := wlen_le (by decide)
      omega
    have hwy' : wlen (y / Nat.gcd (10 * x) y) ≤ 8 := Nat.le_trans (wlen_mono r4) hwy
    have hgo' : decGo (m + 1) p x y = decGo (41 - (p + 1)) (p + 1) (10 * x / Nat.gcd (10 * x) y) (y / Nat.gcd (10 * x) y) := by
      rw [show 41 - (p + 1) = m from by omega, decGo, if_neg hy1]
    simp only [hwp]
    refine ⟨(p + 1, 10 * x / Nat.gcd (10 * x) y, y / Nat.gcd (10 * x) y, nn + 1000), ⟨by simp only []; omega, r1, r2, hwx', hwy', hgo'⟩, by simp only []; omega, ?_⟩
    refine Wk.forget (by simp [Fg, List.replicate]) (fun j => ?_) (by simp only []; omega)
    by_cases h1 : j = [15]
    · subst h1; right; simp [Store.put]
    by_cases h2 : j = [12]
    · subst h2; right; simp [Store.put]
    by_cases h3 : j = [18]
    · subst h3; right; simp [Store.put]
    · left; simp [Store.put, h1, h2, h3]
end
end Go.VL
end

section
set_option maxRecDepth 100000
namespace Go.Proofs.YtcomlgfjnjpebaaGreatDoor
open Go.VL Go.Proofs
section
variable (G : Nat → Option (List AV))
theorem t145 : TrimC Tryz.prog G 145 := fun _ hw hl => trim_ok has_integer_trim hw hl
theorem c95 (n : Nat) (hn : wlen n ≤ 1000000) : VP Tryz.prog G 95 [W n] (W n) := cloneW_ok has_slices_Clone_Luint32_uint32 n hn
theorem s141 : SignedC Tryz.prog G 141 := signedC_ok has_integer_signed (t145 G)
theorem fu142 (n : Nat) (hn : n < 18446744073709551616) : VP Tryz.prog G 142 [.int .u64 ((n : Nat) : Int)] (W n) := fromUint_ok has_integer_fromUint (t145 G) n hn
theorem tu165 (n : Nat) (hn : n < 18446744073709551616) : VP Tryz.prog G 165 [W n] (.int .u64 ((n : Nat) : Int)) := Tryz.toUint_vp G n hn
theorem n166 (a : Int) : VP Tryz.prog G 166 [.int .i64 a] (.bool false) := nan_int_ok has_cmp_isNaN_int a
theorem n195 (a : Int) : VP Tryz.prog G 195 [.int .u32 a] (.bool false) := nan_uint32_ok has_cmp_isNaN_uint32 a
theorem c143 (a b : Int) : VP Tryz.prog G 143 [.int .i64 a, .int .i64 b] (.int .i64 (cmpI a b)) := cmp_int_ok has_cmp_Compare_int (n166 G) a b
theorem c167 (a b : Int) : VP Tryz.prog G 167 [.int .u32 a, .int .u32 b] (.int .i64 (cmpI a b)) := cmp_uint32_ok has_cmp_Compare_uint32 (n195 G) a b
theorem c144 (m n : Nat) (hm : wlen m ≤ 1000000) (hn : wlen n ≤ 1000000) : VP Tryz.prog G 144 [W m, W n] (.int .i64 (cmpN m n)) := compare_ok has_integer_compare (c143 G) (c167 G) m n (by omega) (by omega)
theorem p207 (m n : Nat) (hm : wlen m ≤ 1000000) (hn : wlen n ≤ 1000000) : VP Tryz.prog G 207 [W m, W n] (W (m + n)) := plus_ok has_integer_plus m n hm hn
theorem m208 (m n : Nat) (hnm : n ≤ m) (hm : wlen m ≤ 1000000) : VP Tryz.prog G 208 [W m, W n] (W (m - n)) := minus_ok has_integer_minus (t145 G) m n hnm hm
theorem x168 (m n : Nat) (hm : wlen m ≤ 1000000) (hn : wlen n ≤ 1000000) : VP Tryz.prog G 168 [W m, W n] (W (m * n)) := times_ok has_integer_times (t145 G) m n hm hn
theorem d189 (m w : Nat) (hm : wlen m ≤ 1000000) (hw : w < B32) (h0 : w ≠ 0) : VP Tryz.prog G 189 [W m, .int .u32 (w : Int)] (.tup [W (m / w), W (m % w)]) := divideWord_ok has_integer_divideWord (t145 G) (fu142 G) m w hm hw h0
theorem l90 (x : Nat) (hx : x < B32) : VP Tryz.prog G 90 [.int .u32 (x : Int)] (.int .i64 (blen x : Int)) := len32_ok has_math_bits_Len32 x hx
theorem z190 (x : Nat) (hx : x < B32) (h0 : 0 < x) : VP Tryz.prog G 190 [.int .u32 (x : Int)] (.int .i64 ((32 - blen x : Nat) : Int)) := lz32_ok has_math_bits_LeadingZeros32 (l90 G) x hx h0
theorem d164 (m n : Nat) (hn0 : n ≠ 0) (hm : wlen m ≤ 900000) (hn : wlen n ≤ 900000) : VP Tryz.prog G 164 [W m, W n] (.tup [W (m / n), W (m % n)]) :=
  divide_ok has_integer_divide (c144 G) (c95 G) (tu165 G) (fu142 G) (d189 G) (z190 G) has_integer_shiftLeft (t145 G) has_integer_subtract has_integer_restore has_integer_shiftRight m n hn0 hm hn
theorem g137 (z : Int) (hz : wlen z.natAbs ≤ 1000000) : VP Tryz.prog G 137 [IV z] (.int .i64 z.sign) := sign_ok has_integer_Sign (t145 G) z hz
theorem fi126 (a : Int) (h1 : -9223372036854775808 ≤ a) (h2 : a < 9223372036854775808) : VP Tryz.prog G 126 [.int .i64 a] (IV a) := fromInt_ok has_integer_FromInt (fu142 G) (s141 G) a h1 h2
theorem n169 (z : Int) (hz : wlen z.natAbs ≤ 1000000) : VP Tryz.prog G 169 [IV z] (IV (-z)) := neg_ok has_integer_Neg (t145 G) (c95 G) (s141 G) z hz
theorem m146 (y z : Int) (hy : wlen y.natAbs ≤ 1000000) (hz : wlen z.natAbs ≤ 1000000) : VP Tryz.prog G 146 [IV y, IV z] (IV (y * z)) := mul_ok has_integer_Mul (t145 G) (x168 G) (s141 G) y z hy hz
theorem c127 (y z : Int) (hy : wlen y.natAbs ≤ 1000000) (hz : wlen z.natAbs ≤ 1000000) : VP Tryz.prog G 127 [IV y, IV z] (.int .i64 (cmpI y z)) := cmp_ok has_integer_Cmp (g137 G) (c143 G) (t145 G) (c144 G) y z hy hz
theorem dm196 (a b : Int) (hb0 : b ≠ 0) (ha : wlen a.natAbs ≤ 900000) (hb : wlen b.natAbs ≤ 900000) : VP Tryz.prog G 196 [IV a, IV b] (.tup [IV (a.fdiv b), IV (a.fmod b), .int .i64 0]) := by
  have h := divMod_ok has_integer_DivMod (t145 G) (d164 G) (p207 G) (m208 G) (s141 G) a b hb0 ha hb
  rw [(dm_law a b hb0).1, (dm_law a b hb0).2] at h; exact h
theorem g139 (a b : Int) (ha : wlen a.natAbs ≤ 900000) (hb : wlen b.natAbs ≤ 900000) : VP Tryz.prog G 139 [IV a, IV b] (IV (Nat.gcd a.natAbs b.natAbs : Nat)) := gcd_ok has_integer_GCD (t145 G) (d164 G) (c95 G) (s141 G) (tu165 G) (fu142 G) a b ha hb
theorem iv136 (neg : Bool) (ws : List Nat) (hl : ws.length ≤ 9223372036854775807) : VP Tryz.prog G 136 [IR neg ws] (.bool (ivalid neg ws)) := ivalid_ok has_integer_Valid neg ws hl
theorem o140 : VP Tryz.prog G 140 [] (IV 1) := one_ok has_rational_one (fi126 G 1 (by decide) (by decide))
theorem i138 (z : Int) : VP Tryz.prog G 138 [IV z] (.bool (decide (z = 1))) := isOne_ok has_rational_isOne z
theorem q170 (a b : Int) (hb0 : b ≠ 0) (ha : wlen a.natAbs ≤ 900000) (hb : wlen b.natAbs ≤ 900000) : VP Tryz.prog G 170 [IV a, IV b] (IV (a.fdiv b)) := quo_ok has_rational_quo a b (i138 G b) (dm196 G a b hb0 ha hb)
theorem rfi125 (a : Int) (h1 : -9223372036854775808 ≤ a) (h2 : a < 9223372036854775808) : VP Tryz.prog G 125 [.int .i64 a] (RV a 1) := rfromInt_ok has_rational_FromInt a (fi126 G a h1 h2) (o140 G)
theorem rs124 (a b : Int) (ha : wlen a.natAbs ≤ 1000000) : VP Tryz.prog G 124 [RV a b] (.int .i64 a.sign) := rsign_ok has_rational_Sign a b (g137 G a ha)
theorem lo147 (a b : Int) (hb0 : b ≠ 0) (ha : wlen a.natAbs ≤ 900000) (hb : wlen b.natAbs ≤ 900000) :
    VP Tryz.prog G 147 [IV a, IV b] (RV (a.fdiv (if b < 0 then -(Nat.gcd a.natAbs b.natAbs : Nat) else (Nat.gcd a.natAbs b.natAbs : Nat))) (b.fdiv (if b < 0 then -(Nat.gcd a.natAbs b.natAbs : Nat) else (Nat.gcd a.natAbs b.natAbs : Nat)))) := by
  have hg0 : 0 < Nat.gcd a.natAbs b.natAbs := Nat.gcd_pos_of_pos_right _ (by omega)
  have hgl : wlen (Nat.gcd a.natAbs b.natAbs) ≤ 900000 := Nat.le_trans (wlen_mono (Nat.le_of_dvd (by omega) (Nat.gcd_dvd_right _ _))) hb
  refine lowest_ok has_rational_lowest a b (Nat.gcd a.natAbs b.natAbs : Nat) (g139 G a b ha hb) (n169 G _ (by rw [Int.natAbs_natCast]; omega)) ?_
  intro x y hx hy
  have hy0 : y ≠ 0 := by rcases hy with rfl | rfl <;> omega
  have hyl : wlen y.natAbs ≤ 900000 := by rcases hy with rfl | rfl <;> simpa using hgl
  exact q170 G x y hy0 (by rcases hx with rfl | rfl <;> assumption) hyl
theorem m128 (a b : Nat) (hb : b ≠ 0) (ha : wlen a ≤ 1000) (hwb : wlen b ≤ 1000) :
    VP Tryz.prog G 128 [RV (a : Int) (b : Int), RV 10 1] (RV ((10 * a / Nat.gcd (10 * a) b : Nat) : Int) ((b / Nat.gcd (10 * a) b : Nat) : Int)) := by
  have h10 : wlen 10 ≤ 1 := wlen_le (by decide)
  have h1 : wlen 1 ≤ 1 := wlen_one
  have e10 : ((10 : Nat) : Int) = 10 := rfl
  have hm1 : wlen ((a : Int) * 10).natAbs ≤ 900000 := by
    have := wlen_mul a 10
    rw [show ((a : Int) * 10).natAbs = a * 10 from by omega]; omega
  have hm2 : wlen ((b : Int) * 1).natAbs ≤ 900000 := by rw [show ((b : Int) * 1).natAbs = b from by omega]; omega
  have hl := lo147 G ((a : Int) * 10) ((b : Int) * 1) (by omega) hm1 hm2
  have hg : Nat.gcd ((a : Int) * 10).natAbs ((b : Int) * 1).natAbs = Nat.gcd (10 * a) b := by rw [show ((a : Int) * 10).natAbs = 10 * a from by omega, show ((b : Int) * 1).natAbs = b from by omega]
  have hbp : ¬ ((b : Int) * 1 < 0) := by omega
  rw [hg, if_neg hbp] at hl
  have f1 : ((a : Int) * 10).fdiv (Nat.gcd (10 * a) b : Nat) = ((10 * a / Nat.gcd (10 * a) b : Nat) : Int) := by
    rw [Int.fdiv_eq_ediv_of_nonneg _ (by omega), show (a : Int) * 10 = ((10 * a : Nat) : Int) from by omega]; rfl
  have f2 : ((b : Int) * 1).fdiv (Nat.gcd (10 * a) b : Nat) = ((b / Nat.gcd (10 * a) b : Nat) : Int) := by
    rw [Int.fdiv_eq_ediv_of_nonneg _ (by omega), Int.mul_one]; rfl
  rw [f1, f2] at hl
  have h := rmul_ok has_rational_Mul (a : Int) (b : Int) 10 1 _ rfl (i138 G) (m146 G _ _ (by rw [Int.natAbs_natCast]; omega) (by show wlen 10 ≤ _; omega)) (m146 G _ _ (by rw [Int.natAbs_natCast]; omega) (by show wlen 1 ≤ _; omega)) (o140 G) hl
  by_cases hb1 : b = 1
  · subst hb1
    rw [if_pos ⟨rfl, rfl⟩] at h
    rw [Nat.gcd_one_right, Nat.div_one, Nat.div_one, show ((10 * a : Nat) : Int) = (a : Int) * 10 from by omega]
    exact h
  · rw [if_neg (by omega)] at h; exact h
end
end Go.Proofs.YtcomlgfjnjpebaaGreatDoor
end
