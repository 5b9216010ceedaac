/- For the claim of HistoryNeeds: parts CI24, CR1, CR2, CR3, CR4, CR5, CR6, CR7, CR8. -/
import Derived.Test.YtcomlgfjnjpebaaGreatDoorC06
import Derived.Test.YtcomlgfjnjpebaaGreatDoorC05
set_option linter.unusedSimpArgs false
set_option linter.unusedVariables false
section
set_option linter.unusedSimpArgs false
namespace Go.VL
section
variable {P : Program} {G : Nat → Option (List AV)}
theorem pred64 {q Q : Nat} (h1 : q = Q + 1) (h2 : q < B32) : IntKind.u64.wrap ((q : Int) - 1) = ((Q : Nat) : Int) := by
  subst h1; rw [IntKind.wrap_u64]; unfold B32 at h2; omega
theorem view_us_pre {id : Id} {a t : List Nat} {b tt : Bool} {n : Nat} (hn : n = a.length) : View (Store.of [(id, ⟨us (a ++ t), 1, b⟩)]) (.osl id 1 0 n tt) (.sl 1 (us a)) := by
  subst hn
  refine View.osl (bk := ⟨us (a ++ t), 1, b⟩) (by simp [Store.of]) rfl (by simp [us_len]) ?_ (by rw [us_len]) (us_size a)
  have : ((us (a ++ t)).drop 0).take a.length = us a := by rw [List.drop_zero, us_take]; simp
  show ViewL _ (flat (((us (a ++ t)).drop 0).take a.length)) _
  rw [this]
  exact ViewL.pure (us_pures a)
set_option maxRecDepth 100000 in
set_option maxHeartbeats 4000000 in
theorem divide_ok {f fc fcl ftu fu fdw flz fsl ft fsu fre fsr : FuncId} (h : Has P f (w_integer_divide fc fcl ftu fu fdw flz fsl ft fsu fre fsr))
    (hc : ∀ m n, wlen m ≤ 1000000 → wlen n ≤ 1000000 → VP P G fc [W m, W n] (.int .i64 (cmpN m n))) (hcl : ∀ n, wlen n ≤ 1000000 → VP P G fcl [W n] (W n))
    (htu : ∀ n, n < 18446744073709551616 → VP P G ftu [W n] (.int .u64 ((n : Nat) : Int))) (hu : ∀ n, n < 18446744073709551616 → VP P G fu [.int .u64 ((n : Nat) : Int)] (W n))
    (hdw : ∀ m w : Nat, wlen m ≤ 1000000 → w < B32 → w ≠ 0 → VP P G fdw [W m, .int .u32 (w : Int)] (.tup [W (m / w), W (m % w)]))
    (hlz : ∀ x : Nat, x < B32 → 0 < x → VP P G flz [.int .u32 (x : Int)] (.int .i64 ((32 - blen x : Nat) : Int)))
    (hsl : Has P fsl w_integer_shiftLeft) (ht : TrimC P G ft) (hsu : Has P fsu w_integer_subtract) (hre : Has P fre w_integer_restore) (hsr : Has P fsr w_integer_shiftRight)
    (m n : Nat) (hn0 : n ≠ 0) (hm : wlen m ≤ 900000) (hn : wlen n ≤ 900000) : VP P G f [W m, W n] (.tup [W (m / n), W (m % n)]) := by
  refine VP.has h ?_
  have hcmp := hc m n (by omega) (by omega)
  have hclm := hcl m (by omega)
  have hnil : m / n = 0 → ∀ σ, View σ .nils (W (m / n)) := fun h σ => by rw [h]; simp only [W, digits_zero, us]; exact View.nils 1
  have hlt1 : m < n → m / n = 0 ∧ m % n = m := fun h => ⟨Nat.div_eq_of_lt h, Nat.mod_eq_of_lt h⟩
  have c1 : m < n → decide (cmpN m n < 0) = true := fun h => dec_true (by simp only [cmpN, cmpI]; rw [if_pos (by omega)]; decide)
  have c2 : ¬ m < n → decide (cmpN m n < 0) = false := fun h => dec_false (by simp only [cmpN, cmpI]; rw [if_neg (by omega)]; split <;> decide)
  have l1 : wlen m ≤ 2 → decide ((wlen m : Int) ≤ 2) = true := fun h => dec_true (by omega)
  have l2 : ¬ wlen m ≤ 2 → decide ((wlen m : Int) ≤ 2) = false := fun h => dec_false (by omega)
  have b1 : wlen n = 1 → decide ((wlen n : Int) = 1) = true := fun h => dec_true (by omega)
  have b2 : ¬ wlen n = 1 → decide ((wlen n : Int) = 1) = false := fun h => dec_false (by omega)
  simp only [w_integer_divide, SS, Nat.reduceAdd, reduceIte]
  refine vsCall_VP hcmp (by simp [W_pure]) ?_
  by_cases h1 : m < n
  · simp only [SS, Nat.reduceAdd, reduceIte, c1 h1]
    refine vsCall_VP hclm (by simp [W_pure]) ?_
    simp only [SS, Nat.reduceAdd, reduceIte]
    obtain ⟨e1, e2⟩ := hlt1 h1
    refine retQ_ret ▸ ⟨.tup [.nils, W m], rfl, View.tup (ViewL.cons (hnil e1 _) (ViewL.cons ?_ ViewL.nil))⟩
    rw [e2]; exact View.pure (W_pure _)
  have hnm : n ≤ m := by omega
  have hwn : wlen n ≠ 0 := fun e => hn0 (wlen_pos_iff.1 e)
  by_cases h2 : wlen m ≤ 2
  · have hm2 := lt_of_wlen2 h2
    have hn2 : n < 18446744073709551616 := by omega
    have hq := quo64 m n hm2 hn0
    have hr := rem64 m n hn0
    have hu1 := hu (m / n) (Nat.lt_of_le_of_lt (Nat.div_le_self _ _) hm2)
    have hu2 := hu (m % n) (Nat.lt_of_le_of_lt (Nat.mod_le _ _) hm2)
    simp only [SS, Nat.reduceAdd, reduceIte, c2 h1, W_len, l1 h2]
    refine vsCall_VP (htu m hm2) (by simp [W_pure]) ?_
    simp only [SS, Nat.reduceAdd, reduceIte]
    refine vsCall_VP (htu n hn2) (by simp [W_pure]) ?_
    simp only [SS, DD, Nat.reduceAdd, reduceIte, hq]
    refine vdCall_VP hu1 (by simp [PureAV.int]) ?_
    simp only [SS, DD, Nat.reduceAdd, reduceIte, hr]
    refine vdCall_VP hu2 (by simp [PureAV.int]) ?_
    simp only [SS, DD, Nat.reduceAdd, reduceIte]
    refine ⟨by simp [allApart, apart], ?_⟩
    exact retQ_ret ▸ retQ_of_pure rfl (PureAV.tup (by intro c hc; simp at hc; rcases hc with rfl | rfl <;> exact W_pure _))
  by_cases h3 : wlen n = 1
  · obtain ⟨x, hx⟩ : ∃ x, (digits n)[0]? = some x := ⟨_, List.getElem?_eq_getElem (by show 0 < wlen n; omega)⟩
    have hxn : x = n := by
      have e := val_take_succ hx
      rw [List.take_of_length_le (show (digits n).length ≤ 1 from by show wlen n ≤ 1; omega), val_digits] at e
      simp [val] at e; omega
    have hg := W_get hx
    rw [hxn] at hg
    have hnB : n < B32 := by rw [← hxn]; exact digits_wd n x (List.mem_of_getElem? hx)
    have hdv := hdw m n (by omega) hnB hn0
    have hg' : viaddrS 1 (W n) (.int .i64 0) = some (.ep (AV.int .u32 (n : Int)).cells 0) := hg
    simp only [SS, Nat.reduceAdd, reduceIte, c2 h1, W_len, l2 h2, b1 h3, hg', vload_ep, part_int]
    refine vsCall_VP hdv (by simp [W_pure, PureAV.int]) ?_
    simp only [SS, Nat.reduceAdd, reduceIte, tup2_0, tup2_1]
    exact retQ_ret ▸ retQ_of_pure rfl (PureAV.tup (by intro c hc; simp at hc; rcases hc with rfl | rfl <;> exact W_pure _))
  -- Knuth's algorithm D
  obtain ⟨k, hk⟩ : ∃ k, wlen n = k + 2 := ⟨wlen n - 2, by omega⟩
  obtain ⟨x, hx⟩ : ∃ x, (digits n)[k + 1]? = some x := ⟨_, List.getElem?_eq_getElem (by show k + 1 < wlen n; omega)⟩
  obtain ⟨hx0, hxB, hV, hwV, hs⟩ := norm_law hk hx
  generalize hsd : 32 - blen x = s at hV hwV hs
  have hlzx := hlz x hxB hx0
  rw [hsd] at hlzx
  have p1 : IntKind.i64.wrap (((k + 2 : Nat) : Int) - 1) = ((k + 1 : Nat) : Int) := by rw [IntKind.wrap_i64]; omega
  have p2 : IntKind.i64.wrap (((k + 2 : Nat) : Int) - 2) = ((k : Nat) : Int) := by rw [IntKind.wrap_i64]; omega
  obtain ⟨V, hVd⟩ : ∃ V, V = n * 2 ^ s := ⟨_, rfl⟩
  obtain ⟨U, hUd⟩ : ∃ U, U = m * 2 ^ s := ⟨_, rfl⟩
  rw [← hVd] at hV hwV
  have hslm := shiftLeft_ok (G := G) hsl m s (by omega) hs
  have hsln := shiftLeft_ok (G := G) hsl n s (by omega) hs
  rw [← hVd] at hsln
  rw [← hUd] at hslm
  obtain ⟨L, hL⟩ : ∃ L, wlen m + 1 = L + (k + 2) := ⟨wlen m + 1 - (k + 2), by have := wlen_mono hnm; omega⟩
  have hUB : U < B32 ^ (wlen m + 1) := by
    have h4 : 2 ^ s ≤ 2 ^ 32 := Nat.pow_le_pow_right (by decide) (by omega)
    have h5 : m * 2 ^ s ≤ m * 2 ^ 32 := Nat.mul_le_mul_left _ h4
    have h6 : m * 2 ^ 32 < B32 ^ wlen m * 2 ^ 32 := Nat.mul_lt_mul_of_pos_right (lt_pow_wlen m) (by decide)
    rw [Nat.pow_succ, hUd]; exact Nat.lt_of_le_of_lt h5 h6
  obtain ⟨A0, R0, hAR, hA0, hR0⟩ : ∃ A R, pad (wlen m + 1) U = A ++ R ++ [] ∧ A.length = L ∧ R.length = k + 2 :=
    ⟨(pad (wlen m + 1) U).take L, (pad (wlen m + 1) U).drop L, by simp, by simp [pad_len]; omega, by simp [pad_len]; omega⟩
  have hAw : Wd A0 ∧ Wd R0 := by
    have h4 := pad_wd (wlen m + 1) U
    rw [hAR] at h4
    exact ⟨fun w hw => h4 w (by simp [hw]), fun w hw => h4 w (by simp [hw])⟩
  have hU0 : U = val A0 + B32 ^ L * val R0 := by
    have h4 := val_padded hUB
    rw [hAR, List.append_nil, val_append, hA0] at h4
    exact h4.symm
  have hR0V : val R0 < V := kd_start (k := k + 2) hVd (by have := pow_wlen_le hn0; rw [hk] at this; exact this) (by
    have h4 := lt_pow_wlen m
    have : L + (k + 2 - 1) = wlen m := by omega
    rw [this]; exact h4) (hUd ▸ hU0)
  have hwV' : wlen V = k + 2 := hwV
  obtain ⟨hh, hhg⟩ : ∃ y, (digits V)[k + 1]? = some y := ⟨_, List.getElem?_eq_getElem (by show k + 1 < wlen V; omega)⟩
  obtain ⟨ll, llg⟩ : ∃ y, (digits V)[k]? = some y := ⟨_, List.getElem?_eq_getElem (by show k < wlen V; omega)⟩
  have hhB := digits_wd V hh (List.mem_of_getElem? hhg)
  have llB := digits_wd V ll (List.mem_of_getElem? llg)
  have f1 := w64_word hh hhB
  have f2 := w64_word ll llB
  obtain ⟨hVV, hvM⟩ := top2 (digits_wd V) hwV' hhg llg
  rw [val_digits] at hVV
  have hh0 : 0 < hh := by
    rcases digits_last (n := V) with h4 | ⟨w, h4, hw⟩
    · rw [h4] at hhg; simp at hhg
    · rw [List.getLast?_eq_getElem?, show (digits V).length - 1 = k + 1 from by show wlen V - 1 = k + 1; omega, hhg] at h4
      simp only [Option.some.injEq] at h4; omega
  have hV0 : 0 < V := Nat.lt_of_le_of_lt (Nat.zero_le _) hR0V
  have hlen1 : IntKind.i64.wrap (((wlen m + 1 : Nat) : Int) - ((k + 2 : Nat) : Int)) = ((L : Nat) : Int) := by rw [IntKind.wrap_i64]; omega
  have hlen2 : IntKind.i64.wrap (((L : Nat) : Int) - 1) = (L : Int) - 1 := by rw [IntKind.wrap_i64]; omega
  have hmk : ∀ p : Id, vmksl p 1 4 (.int .u32 0) (.int .i64 ((L : Nat) : Int)) (.int .i64 ((L : Nat) : Int)) = some { val := .osl p 1 0 L false, up := [(p, some ⟨us (List.replicate L 0), 1, false⟩)] } := fun p => mkz_us (by omega)
  rw [hAR] at hslm
  rw [hk] at hsln
  have b3 : decide (((k + 2 : Nat) : Int) = 1) = false := dec_false (by omega)
  have hVp : V < B32 ^ (k + 2 + 1) := Nat.lt_of_lt_of_le hV (Nat.pow_le_pow_right B32_pos (by omega))
  have htv : VP P G ft [.sl 1 (us (pad (k + 2 + 1) V))] (W V) := by
    have := ht (pad (k + 2 + 1) V) (pad_wd _ _) (by rw [pad_len]; omega)
    rwa [val_padded hVp] at this
  simp only [SS, Nat.reduceAdd, reduceIte, c2 h1, W_len, l2 h2, b3, hk, p1, W_get hx, vload_ep, part_int]
  refine vsCall_VP hlzx (by simp [PureAV.int]) ?_
  simp only [SS, Nat.reduceAdd, reduceIte]
  refine ⟨[], _, hslm _, by simp, by simp, ?_⟩
  simp only [SS, Nat.reduceAdd, reduceIte]
  refine ⟨[], _, hsln _, by simp, by simp, ?_⟩
  simp only [SS, Nat.reduceAdd, reduceIte]
  refine vsCall_view [([4, 28], ⟨us (pad (k + 2 + 1) V), 1, false⟩)] htv (ViewL.cons (view_us (pad_len _ _).symm) ViewL.nil) (by simp [Store.put, Store.app]) ?_
  simp only [SS, Nat.reduceAdd, reduceIte]
  simp only [SS, DD, Nat.reduceAdd, reduceIte, W_len, hwV', hlen1, hlen2, hmk, p1, p2, W_get hhg, W_get llg, vload_ep, part_int, f1, f2]
  refine ⟨by simp [allApart], ?_⟩
  simp only [SS, DD, Nat.reduceAdd, reduceIte, W_len, hlen2, vwp_loop]
  refine VW.loopW (α := Nat × List Nat × List Nat × List Nat × List Nat × Nat) (fun x => ⟨List.replicate 8 .top ++ [.int .i64 (s : Int), .osl [4, 25] 1 0 (wlen m + 1) false, W V, .int .i64 ((k + 2 : Nat) : Int), .osl [39] 1 0 L false, .int .u64 (hh : Int), .int .u64 (ll : Int), .int .i64 ((x.1 : Int) - 1)] ++ List.replicate 161 .top,
    Store.put (Store.put (fun _ => none) [4, 25] (some ⟨us (x.2.1 ++ x.2.2.1 ++ x.2.2.2.1), 1, false⟩)) [39] (some ⟨us (zs x.1 ++ x.2.2.2.2.1), 1, false⟩), x.2.2.2.2.2⟩)
    (fun x => x.1 + x.2.2.2.2.1.length = L ∧ x.2.1.length = x.1 ∧ x.2.2.1.length = k + 2 ∧ x.1 + (k + 2) + x.2.2.2.1.length = wlen m + 1 ∧ Wd x.2.1 ∧ Wd x.2.2.1 ∧ Wd x.2.2.2.2.1 ∧ val x.2.2.1 < V ∧ U = val x.2.1 + B32 ^ x.1 * (val x.2.2.2.2.1 * V + val x.2.2.1)) (fun x => x.1) (L, A0, R0, [], [], 1000) ?_ ?_ ?_
  · refine Wk.forget (by simp [Fg, List.replicate]) (fun j => ?_) (by simp only []; omega)
    simp only [List.append_nil, Store.put, Store.app, frz, List.map_cons, List.map_nil, zs]
    by_cases e1 : j = [39]
    · subst e1; simp
    · by_cases e2 : j = [4, 25]
      · subst e2; simp
      · simp [e1, e2]
  · refine ⟨by simp, hA0, hR0, by simp; omega, hAw.1, hAw.2, by intro w hw; simp at hw, hR0V, ?_⟩
    show U = val A0 + B32 ^ L * (val [] * V + val R0)
    rw [show val [] = 0 from rfl, Nat.zero_mul, Nat.zero_add]; exact hU0
  rintro ⟨c, A, R, t, o, nn⟩ ⟨hc, hA, hR, htl, hAW, hRW, hoW, hRV, hUe⟩
  simp only [] at hc hA hR htl hAW hRW hoW hRV hUe
  rcases Nat.eq_zero_or_pos c with h0 | hcp
  · subst h0
    have d0 : decide ((0 : Int) ≤ ((0 : Nat) : Int) - 1) = false := by decide
    refine VW.seqV (VW.of ?_)
    simp only [SS, DD, Nat.reduceAdd, reduceIte, d0]
    obtain rfl : A = [] := List.length_eq_zero_iff.1 hA
    have hU' : m * 2 ^ s = val o * (n * 2 ^ s) + val R := by
      rw [← hUd, ← hVd, hUe]
      show val [] + B32 ^ 0 * _ = _
      simp [val]
    obtain ⟨g1, g2, g3⟩ := kd_done hn0 hU' (hVd ▸ hRV)
    have hoL : L = o.length := by omega
    have htq := ht o hoW (by omega)
    rw [g1] at htq
    have htR := ht R hRW (by omega)
    have hwR : wlen (val R) ≤ 1000000 := by rw [← hVd, hwV'] at g3; omega
    have hsrR := shiftRight_ok (G := G) hsr (val R) s hwR hs
    have htr : VP P G ft [.sl 1 (us (pad (wlen (val R)) (val R / 2 ^ s)))] (W (m % n)) := by
      have e := ht (pad (wlen (val R)) (val R / 2 ^ s)) (pad_wd _ _) (by rw [pad_len]; omega)
      rw [val_padded (Nat.lt_of_le_of_lt (Nat.div_le_self _ _) (lt_pow_wlen _))] at e
      rw [← g2]; exact e
    have hslc : vslice 1 (.osl [4, 25] 1 0 (wlen m + 1) false) none (some (.int .i64 ((k + 2 : Nat) : Int))) none = some (.osl [4, 25] 1 0 (k + 2) false) := slice_own0 (by omega)
    rw [zs_zero, List.nil_append, List.nil_append]
    refine vdCall_view [([39], ⟨us o, 1, false⟩)] htq (ViewL.cons (view_us hoL) ViewL.nil) (by simp [Store.put]) ?_
    simp only [SS, DD, Nat.reduceAdd, reduceIte, hslc]
    refine vdCall_view [([4, 25], ⟨us (R ++ t), 1, false⟩)] htR (ViewL.cons (view_us_pre hR.symm) ViewL.nil) (by simp [Store.put, Store.app, frz]) ?_
    simp only [SS, DD, Nat.reduceAdd, reduceIte]
    refine vdCall_VP hsrR (by simp [W_pure, PureAV.int]) ?_
    simp only [SS, DD, Nat.reduceAdd, reduceIte]
    refine vdCall_VP htr (by simp [us_pure]) ?_
    simp only [SS, DD, Nat.reduceAdd, reduceIte]
    refine ⟨by simp [allApart, apart, frz], ?_⟩
    exact retQ_ret ▸ retQ_of_pure rfl (PureAV.tup (by intro c hc; simp at hc; rcases hc with rfl | rfl <;> exact W_pure _))
  obtain ⟨i, rfl⟩ : ∃ i, c = i + 1 := ⟨c - 1, by omega⟩
  have d0 : decide ((0 : Int) ≤ (i : Int)) = true := dec_true (by omega)
  have hj : ((i + 1 : Nat) : Int) - 1 = (i : Int) := by omega
  have hji : IntKind.i64.wrap ((i : Int) - 1) = (i : Int) - 1 := by rw [IntKind.wrap_i64]; omega
  refine VW.seqV (VW.of ?_)
  simp only [SS, DD, Nat.reduceAdd, reduceIte, hj, d0]
  obtain ⟨A', y, rfl, hA'⟩ := split_last hA
  obtain ⟨b, hbd⟩ : ∃ b, b = y :: R := ⟨_, rfl⟩
  have eb : A' ++ [y] ++ R ++ t = A' ++ b ++ t := by rw [hbd]; simp
  rw [eb]
  have hyB : y < B32 := hAW y (by simp)
  have hA'W : Wd A' := fun w hw => hAW w (by simp [hw])
  have hbl : b.length = k + 3 := by rw [hbd]; simp [hR]
  have hbW : Wd b := by
    intro w hw; rw [hbd] at hw
    rcases List.mem_cons.1 hw with rfl | hw
    · exact hyB
    · exact hRW w hw
  have hbv : val b = y + B32 * val R := by rw [hbd]; rfl
  obtain ⟨hDV, hDB⟩ := kd_D hyB hRV
  rw [← hbv] at hDV hDB
  obtain ⟨x2, hx2⟩ : ∃ z, b[k + 2]? = some z := ⟨_, List.getElem?_eq_getElem (by omega)⟩
  obtain ⟨x1, hx1⟩ : ∃ z, b[k + 1]? = some z := ⟨_, List.getElem?_eq_getElem (by omega)⟩
  obtain ⟨z0, hz0⟩ : ∃ z, b[k]? = some z := ⟨_, List.getElem?_eq_getElem (by omega)⟩
  have hx2B := hbW x2 (List.mem_of_getElem? hx2)
  have hx1B := hbW x1 (List.mem_of_getElem? hx1)
  have hz0B := hbW z0 (List.mem_of_getElem? hz0)
  obtain ⟨hD, huM⟩ := top3 hbW hbl hx2 hx1 hz0
  rw [show x2 * B32 + x1 = B32 * x2 + x1 from by rw [Nat.mul_comm]] at hD
  obtain ⟨num, hnumd⟩ : ∃ z, z = B32 * x2 + x1 := ⟨_, rfl⟩
  rw [← hnumd] at hD
  have hnumB : num < 18446744073709551616 := by rw [hnumd]; unfold B32 at *; omega
  have a1 := add_i64 i (k + 2) (by omega)
  have a2 : IntKind.i64.wrap (((i + (k + 2) : Nat) : Int) - 1) = ((i + (k + 1) : Nat) : Int) := by rw [IntKind.wrap_i64]; omega
  have a3 : IntKind.i64.wrap (((i + (k + 2) : Nat) : Int) - 2) = ((i + k : Nat) : Int) := by rw [IntKind.wrap_i64]; omega
  have a4 : IntKind.i64.wrap (((i + (k + 2) : Nat) : Int) + 1) = ((i + (k + 3) : Nat) : Int) := by rw [IntKind.wrap_i64]; omega
  have ia2 := iaddr_own (q := [4, 25]) (t := false) (show i + (k + 2) < wlen m + 1 by omega)
  have ia1 := iaddr_own (q := [4, 25]) (t := false) (show i + (k + 1) < wlen m + 1 by omega)
  have ia0 := iaddr_own (q := [4, 25]) (t := false) (show i + k < wlen m + 1 by omega)
  have iaq := iaddr_own (q := [39]) (t := false) (show i < L by omega)
  have hslc : vslice 1 (.osl [4, 25] 1 0 (wlen m + 1) false) (some (.int .i64 (i : Int))) (some (.int .i64 ((i + (k + 3) : Nat) : Int))) none = some (.osl [4, 25] 1 A'.length (wlen V + 1) false) := by
    rw [slice_own (by omega) (by omega), hA', hwV']
    congr 2; omega
  generalize hσ : Store.put (Store.put (fun _ => none) [4, 25] (some ⟨us (A' ++ b ++ t), 1, false⟩)) [39] (some ⟨us (zs (i + 1) ++ o), 1, false⟩) = σ0
  have hσU : σ0 [4, 25] = some ⟨us (A' ++ b ++ t), 1, false⟩ := by rw [← hσ]; simp [Store.put]
  have hσQ : σ0 [39] = some ⟨us (zs (i + 1) ++ o), 1, false⟩ := by rw [← hσ]; simp [Store.put]
  have ld2 := load_us hσU (get_blk (t := t) hA' hx2)
  have ld1 := load_us hσU (get_blk (t := t) hA' hx1)
  have ld0 := load_us hσU (get_blk (t := t) hA' hz0)
  have w2 := w64_word x2 hx2B
  have w1 := w64_word x1 hx1B
  have w0 := w64_word z0 hz0B
  have s2 := shl_hi x2 hx2B
  have o2 := or_hi x2 x1 hx2B hx1B
  rw [← hnumd] at o2
  have q1 := quo64 num hh hnumB (by omega)
  have r1 := rem64 num hh (by omega)
  refine VW.seqV (VW.blockT (VW.seqV (VW.of ?_)))
  simp only [SS, DD, Nat.reduceAdd, reduceIte, a1, a2, ia2, ia1, ld2, ld1, w2, w1, s2, o2]
  refine ⟨by simp [allApart], VW.seqV (VW.of ?_)⟩
  simp only [SS, DD, Nat.reduceAdd, reduceIte, q1, r1]
  refine ⟨by simp [allApart], VW.seqV (VW.blockT ?_)⟩
  have hinit : num / hh * hh + num % hh = num := by rw [Nat.mul_comm]; exact Nat.div_add_mod num hh
  have hfirst := kd_first hh0 hVV hD hz0B huM
  refine VW.mono (Q := fun e s' => ∃ q n2, e = .exit 3 ∧ (q < B32 ∧ val b / V ≤ q ∧ q ≤ val b / V + 1) ∧ Wk G [] s' ⟨List.replicate 8 .top ++ [.int .i64 (s : Int), .osl [4, 25] 1 0 (wlen m + 1) false, W V, .int .i64 ((k + 2 : Nat) : Int), .osl [39] 1 0 L false, .int .u64 (hh : Int), .int .u64 (ll : Int), .int .i64 (i : Int), .top, .int .u64 (q : Int)] ++ List.replicate 159 .top, σ0, n2⟩) ?_ ?_
  · refine VW.loopQ (α := Nat × Nat × Nat) (fun x => ⟨List.replicate 8 .top ++ [.int .i64 (s : Int), .osl [4, 25] 1 0 (wlen m + 1) false, W V, .int .i64 ((k + 2 : Nat) : Int), .osl [39] 1 0 L false, .int .u64 (hh : Int), .int .u64 (ll : Int), .int .i64 (i : Int), .top, .int .u64 (x.1 : Int), .int .u64 (x.2.1 : Int)] ++ List.replicate 158 .top, σ0, x.2.2⟩)
      (fun x => x.1 * hh + x.2.1 = num ∧ val b / V ≤ x.1 ∧ x.2.1 < B32 ∧ x.1 < 18446744073709551616) (fun x => x.1) (num / hh, num % hh, nn + 1000) ?_ ?_ ?_
    · exact Wk.slots (by simp [Fg, List.replicate]) (by simp only []; omega)
    · exact ⟨hinit, hfirst, Nat.lt_trans (Nat.mod_lt _ hh0) hhB, Nat.lt_of_le_of_lt (Nat.div_le_self _ _) hnumB⟩
    rintro ⟨q, r, n3⟩ ⟨hqr, hle, hrB, hq64⟩
    simp only [] at hqr hle hrB hq64
    have d1 : B32 ≤ q → decide ((4294967296 : Int) ≤ (q : Int)) = true := fun h => dec_true (by unfold B32 at h; omega)
    have d2 : ¬ B32 ≤ q → decide ((4294967296 : Int) ≤ (q : Int)) = false := fun h => dec_false (by unfold B32 at h; omega)
    have d3 : B32 ≤ r + hh → decide ((4294967296 : Int) ≤ ((r + hh : Nat) : Int)) = true := fun h => dec_true (by unfold B32 at h; omega)
    have d4 : ¬ B32 ≤ r + hh → decide ((4294967296 : Int) ≤ ((r + hh : Nat) : Int)) = false := fun h => dec_false (by unfold B32 at h; omega)
    have d5 : B32 * r + z0 < q * ll → decide (((B32 * r + z0 : Nat) : Int) < ((q * ll : Nat) : Int)) = true := fun h => dec_true (by omega)
    have d6 : ¬ B32 * r + z0 < q * ll → decide (((B32 * r + z0 : Nat) : Int) < ((q * ll : Nat) : Int)) = false := fun h => dec_false (by omega)
    have m1 : ¬ B32 ≤ q → IntKind.u64.wrap ((q : Int) * (ll : Int)) = ((q * ll : Nat) : Int) := fun h => mul64 q ll (by omega) llB
    have s3 := shl_hi r hrB
    have o3 := or_hi r z0 hrB hz0B
    have p3 := add64 r hh (by unfold B32 at *; omega)
    have hdc := fun ht => kd_dec (q := q) (r := r) llB hvM huM hh0 hVV hD hDV hDB hqr hle ht
    have hok : ¬ B32 ≤ q → q * ll ≤ r * B32 + z0 → q ≤ val b / V + 1 := fun h1 h2 => kd_pass hh0 hVV hD hvM (by omega) hqr h2
    have hcm : r * B32 = B32 * r := Nat.mul_comm _ _
    rw [hcm] at hdc hok
    have pq : 1 ≤ q → IntKind.u64.wrap ((q : Int) - 1) = ((q - 1 : Nat) : Int) := fun h => by rw [IntKind.wrap_u64]; omega
    have hql : q - 1 < 18446744073709551616 := by omega
    have hmq : 1 ≤ q → q - 1 < q := fun h => by omega
    have hrh : ¬ B32 ≤ r + hh → r + hh < B32 := fun h => by omega
    by_cases cq : B32 ≤ q
    · obtain ⟨k1, k2, k3, k4⟩ := hdc (.inl cq)
      by_cases cr : B32 ≤ r + hh
      · simp only [SS, Nat.reduceAdd, reduceIte, d1 cq, pq k1, p3, d3 cr]
        exact ⟨q - 1, _, trivial, ⟨(k4 cr).1, k2, (k4 cr).2⟩, Wk.slots (by simp [Fg, List.replicate]) (Nat.le_refl _)⟩
      · simp only [SS, Nat.reduceAdd, reduceIte, d1 cq, pq k1, p3, d4 cr]
        exact ⟨(q - 1, r + hh, _), ⟨k3, k2, hrh cr, hql⟩, hmq k1, Wk.slots (by simp [Fg, List.replicate]) (Nat.le_refl _)⟩
    · by_cases ct : B32 * r + z0 < q * ll
      · obtain ⟨k1, k2, k3, k4⟩ := hdc (.inr ct)
        by_cases cr : B32 ≤ r + hh
        · simp only [SS, Nat.reduceAdd, reduceIte, d2 cq, m1 cq, s3, a1, a3, ia0, ld0, w0, o3, d5 ct, pq k1, p3, d3 cr]
          exact ⟨q - 1, _, trivial, ⟨(k4 cr).1, k2, (k4 cr).2⟩, Wk.slots (by simp [Fg, List.replicate]) (Nat.le_refl _)⟩
        · simp only [SS, Nat.reduceAdd, reduceIte, d2 cq, m1 cq, s3, a1, a3, ia0, ld0, w0, o3, d5 ct, pq k1, p3, d4 cr]
          exact ⟨(q - 1, r + hh, _), ⟨k3, k2, hrh cr, hql⟩, hmq k1, Wk.slots (by simp [Fg, List.replicate]) (Nat.le_refl _)⟩
      · have hp := hok cq (by omega)
        have hqB' : q < B32 := by omega
        simp only [SS, Nat.reduceAdd, reduceIte, d2 cq, m1 cq, s3, a1, a3, ia0, ld0, w0, o3, d6 ct]
        exact ⟨q, _, trivial, ⟨hqB', hle, hp⟩, Wk.slots (by simp [Fg, List.replicate]) (Nat.le_refl _)⟩
  rintro e s' ⟨q, n2, rfl, ⟨hqB, hle, hpass⟩, hw⟩
  simp only [blkd_exit, if_true, reduceIte, then_normal]
  refine VW.cut hw ?_
  have hsub := subtract_ok (G := G) hsu (id := [4, 25]) (a := A') (b := b) (t := t) (v := V) (q := q) (tight := false) (by omega) (by omega) hbW hqB
  have hres := restore_ok (G := G) hre (id := [4, 25]) (a := A') (b := pad (wlen V + 1) (val b + B32 ^ (wlen V + 1) - q * V)) (t := t) (v := V) (tight := false) (by omega) (pad_len _ _) (pad_wd _ _)
  have hVB : V < B32 ^ (k + 2) := hV
  have hmodV : val b % V < V := Nat.mod_lt _ hV0
  have hmodB : val b % V < B32 ^ (k + 2) := Nat.lt_trans hmodV hVB
  simp only [SS, Nat.reduceAdd, reduceIte, a1, a4, hslc]
  refine ⟨[([4, 25], ⟨us (A' ++ b ++ t), 1, false⟩)], _, hsub _, by simp [hσU], by simp, ?_⟩
  have hqL : i < (zs (i + 1) ++ o).length := by simp [zs]; omega
  have hfin : val b = val b / V * V + val b % V := by have := Nat.div_add_mod (val b) V; rw [Nat.mul_comm] at this; omega
  have hUn : U = val A' + B32 ^ i * (val (val b / V :: o) * V + val (pad (k + 2) (val b % V))) := by
    rw [val_padded hmodB]
    refine kd_round (x := y) (R := val R) (O := val o) ?_ (by rw [← hbv]; exact hfin)
    rw [hUe, val_append, hA']
    simp only [val, Nat.mul_zero, Nat.add_zero]
  have hnew : i + (val b / V :: o).length = L ∧ A'.length = i ∧ (pad (k + 2) (val b % V)).length = k + 2 ∧ i + (k + 2) + (0 :: t).length = wlen m + 1 ∧ Wd A' ∧ Wd (pad (k + 2) (val b % V)) ∧ Wd (val b / V :: o) ∧ val (pad (k + 2) (val b % V)) < V ∧ U = val A' + B32 ^ i * (val (val b / V :: o) * V + val (pad (k + 2) (val b % V))) := by
    refine ⟨by simp; omega, hA', pad_len _ _, by simp; omega, hA'W, pad_wd _ _, ?_, by rw [val_padded hmodB]; exact hmodV, hUn⟩
    intro w hw
    rcases List.mem_cons.1 hw with rfl | hw
    · exact hDB
    · exact hoW w hw
  have hqi : IntKind.u32.wrap ((val b / V : Nat) : Int) = ((val b / V : Nat) : Int) := by rw [w32, Nat.mod_eq_of_lt hDB]
  have hnc : ((i : Nat) : Int) - 1 = (((i : Nat) : Int) - 1) := rfl
  rcases kd_sub hV0 hle hpass with ⟨hlt, hqe⟩ | ⟨hge, hqe⟩
  · have dn : decide (val b < q * V) = true := dec_true hlt
    have pq := pred64 hqe hqB
    have hpr : pad (wlen V + 1) (val (pad (wlen V + 1) (val b + B32 ^ (wlen V + 1) - q * V)) + V) = pad (k + 2) (val b % V) ++ [0] := by
      rw [hwV']; exact pad_rest hV0 hmodB hVB hqe
    have ef : A' ++ (pad (k + 2) (val b % V) ++ [0]) ++ t = A' ++ pad (k + 2) (val b % V) ++ (0 :: t) := by simp
    rw [hpr, ef] at hres
    simp only [SS, Nat.reduceAdd, reduceIte, dn, pq, a1, a4, hslc]
    refine ⟨[([4, 25], ⟨us (A' ++ pad (wlen V + 1) (val b + B32 ^ (wlen V + 1) - q * V) ++ t), 1, false⟩)], _, hres _, by simp [Store.put], by simp, ?_⟩
    simp only [SS, Nat.reduceAdd, reduceIte, hqi, iaq]
    rw [store_us (o := zs (i + 1) ++ o) (by simp [Store.put, hσQ]) hqL, set_post]
    simp only [SS, Nat.reduceAdd, reduceIte]
    refine VW.of ?_
    simp only [SS, Nat.reduceAdd, reduceIte, hji]
    refine ⟨(i, A', pad (k + 2) (val b % V), 0 :: t, val b / V :: o, _), hnew, Nat.lt_succ_self i, Wk.forget (by simp [Fg, List.replicate]) (fun j => ?_) (Nat.le_refl _)⟩
    by_cases e1 : j = [39]
    · subst e1; simp [Store.put]
    · by_cases e2 : j = [4, 25]
      · subst e2; simp [Store.put]
      · simp [Store.put, e1, e2]
  · have dn : decide (val b < q * V) = false := dec_false (by omega)
    have hpr : pad (wlen V + 1) (val b + B32 ^ (wlen V + 1) - q * V) = pad (k + 2) (val b % V) ++ [0] := by
      rw [hwV']; exact pad_keep hmodB hqe
    have ef : A' ++ (pad (k + 2) (val b % V) ++ [0]) ++ t = A' ++ pad (k + 2) (val b % V) ++ (0 :: t) := by simp
    rw [hpr, ef]
    simp only [SS, Nat.reduceAdd, reduceIte, dn]
    rw [hqe]
    simp only [SS, Nat.reduceAdd, reduceIte, hqi, iaq]
    rw [store_us (o := zs (i + 1) ++ o) (by simp [Store.put, hσQ]) hqL, set_post]
    simp only [SS, Nat.reduceAdd, reduceIte]
    refine VW.of ?_
    simp only [SS, Nat.reduceAdd, reduceIte, hji]
    refine ⟨(i, A', pad (k + 2) (val b % V), 0 :: t, val b / V :: o, _), hnew, Nat.lt_succ_self i, Wk.forget (by simp [Fg, List.replicate]) (fun j => ?_) (Nat.le_refl _)⟩
    by_cases e1 : j = [39]
    · subst e1; simp [Store.put]
    · by_cases e2 : j = [4, 25]
      · subst e2; simp [Store.put]
      · simp [Store.put, e1, e2]
end
end Go.VL
end

section
set_option linter.unusedSimpArgs false
namespace Go.VL
theorem IV_of (neg : Bool) (n : Nat) : IV (sgn neg n) = .agg [.bool (neg && decide (0 < n)), W n] := by
  cases neg
  · simp only [IV, sgn]; simp <;> omega
  · simp only [IV, sgn]; simp <;> omega
theorem store_Z (σ : Store) (id : Id) (k : Nat) (b : Bool) (n : Nat) : vstore (σ.put id (some ⟨[.agg [.bool false, .nils]], k, false⟩)) 2 (.ref id 0 0) (.agg [.bool b, W n]) = some { val := .tup [], rd := [id], up := [(id, some ⟨[.agg [.bool b, W n]], k, false⟩)] } := by
  rw [vstore_at (n := 2) (v := .agg [.bool b, W n]) (els := [.agg [.bool false, .nils]]) (k := k) (Store.put_same _ _ _) rfl rfl (by simp [AV.size, AV.cells]) rfl]
  rfl
theorem wlen_pos {n : Nat} : 0 < wlen n ↔ 0 < n := by have := wlen_pos_iff (n := n); omega
section
variable {P : Program} {G : Nat → Option (List AV)}
theorem rsigned_ok {f ft : FuncId} (h : Has P f (w_setsquareref01_signed ft)) (ht : TrimC P G ft) : SignedC P G f := fun neg n hn => by
  refine VP.has h ?_
  simp only [w_setsquareref01_signed, SS, Nat.reduceAdd, reduceIte, zeroI_one]
  refine vsCall_VP (trimW ht n hn) (by simp [W_pure]) ?_
  have e : ∀ b, vfill [.bool false, .nils] [(0, (1, .bool b)), (1, (1, W n))] = some [.bool b, W n] := fun _ => rfl
  have dd : decide ((0 : Int) < (wlen n : Int)) = decide (0 < n) := by
    have := wlen_pos (n := n)
    by_cases h0 : 0 < n
    · rw [dec_true h0, dec_true (by omega)]
    · rw [dec_false h0, dec_false (by omega)]
  rw [IV_of]
  cases neg <;>
  · simp only [SS, Nat.reduceAdd, reduceIte, W_len, dd, e, store_Z, Bool.true_and, Bool.false_and]
    refine retQ_ret ▸ retQ_of_pure ?_ (PureAV.agg (by intro c hc; simp at hc; rcases hc with rfl | rfl; exact PureAV.bool _; exact W_pure _))
    simp only [RS, outAV, resAV, load_put]; rfl
theorem rnorm_ok {f fs : FuncId} (h : Has P f (w_setsquareref01_Norm fs)) (hs : SignedC P G fs) (z : Int) (hz : wlen z.natAbs ≤ 1000000) : VP P G f [IV z] (IV z) := by
  refine VP.has h ?_
  have hs' := hs (decide (z < 0)) z.natAbs (by omega)
  rw [sgn_self] at hs'
  have k01 : ([0] : List Nat) ≠ [1] := by decide
  simp only [w_setsquareref01_Norm, SS, Nat.reduceAdd, reduceIte, IV_one, zeroI_one, load_skip k01, load_put, IV_p0, IV_p1]
  refine vsCall_VP hs' (by simp [PureAV.bool, W_pure]) ?_
  simp only [SS, Nat.reduceAdd, reduceIte, store_IV]
  refine retQ_ret ▸ retQ_of_pure (r := IV z) ?_ (IV_pure _)
  simp only [RS, outAV, resAV, load_put]; rfl
theorem rneg_ok {f fs : FuncId} (h : Has P f (w_setsquareref01_Neg fs)) (hs : SignedC P G fs) (z : Int) (hz : wlen z.natAbs ≤ 1000000) : VP P G f [IV z] (IV (-z)) := by
  refine VP.has h ?_
  have hs' := hs (!decide (z < 0)) z.natAbs (by omega)
  rw [sgn_neg] at hs'
  have k01 : ([0] : List Nat) ≠ [1] := by decide
  simp only [w_setsquareref01_Neg, SS, Nat.reduceAdd, reduceIte, IV_one, zeroI_one, load_skip k01, load_put, IV_p0, IV_p1]
  refine vsCall_VP hs' (by simp [PureAV.bool, W_pure]) ?_
  simp only [SS, Nat.reduceAdd, reduceIte, store_IV]
  refine retQ_ret ▸ retQ_of_pure (r := IV (-z)) ?_ (IV_pure _)
  simp only [RS, outAV, resAV, load_put]; rfl
theorem rsignI_ok {f fn : FuncId} (h : Has P f (w_setsquareref01_Sign fn)) (hn : ∀ z : Int, wlen z.natAbs ≤ 1000000 → VP P G fn [IV z] (IV z)) (z : Int) (hz : wlen z.natAbs ≤ 1000000) : VP P G f [IV z] (.int .i64 z.sign) := by
  refine VP.has h ?_
  have hl : wlen z.natAbs = 0 ↔ z = 0 := by rw [wlen_pos_iff]; omega
  simp only [w_setsquareref01_Sign, SS, Nat.reduceAdd, reduceIte, IV_one, load_put, IV_p1, IV_all]
  refine vsCall_VP (hn z hz) (by simp [IV_pure]) ?_
  simp only [SS, Nat.reduceAdd, reduceIte]
  rw [store_IV' (k := (IV z).size) (y := IV z) rfl (IV_upd _ _) (by simp [Store.put])]
  simp only [SS, Nat.reduceAdd, reduceIte, load_put, IV_p1, W_len]
  by_cases h0 : z = 0
  · have d0 : decide ((wlen z.natAbs : Int) = 0) = true := dec_true (by have := hl.2 h0; omega)
    simp only [SS, Nat.reduceAdd, reduceIte, d0]
    rw [h0]
    exact retQ_ret ▸ retQ_of_pure rfl (PureAV.int _ _)
  · have d0 : decide ((wlen z.natAbs : Int) = 0) = false := dec_false (by have := fun e => h0 (hl.1 e); omega)
    by_cases hn : z < 0
    · have d1 : decide (z < 0) = true := dec_true hn
      simp only [SS, Nat.reduceAdd, reduceIte, d0, IV_one, load_put, IV_p0, d1]
      rw [Int.sign_eq_neg_one_of_neg hn]
      exact retQ_ret ▸ retQ_of_pure rfl (PureAV.int _ _)
    · have d1 : decide (z < 0) = false := dec_false hn
      simp only [SS, Nat.reduceAdd, reduceIte, d0, IV_one, load_put, IV_p0, d1]
      rw [Int.sign_eq_one_of_pos (by omega)]
      exact retQ_ret ▸ retQ_of_pure rfl (PureAV.int _ _)
theorem rfromI_ok {f fu fs : FuncId} (h : Has P f (w_setsquareref01_FromInt fu fs)) (hu : ∀ n, n < 18446744073709551616 → VP P G fu [.int .u64 ((n : Nat) : Int)] (W n)) (hs : SignedC P G fs) (a : Int) (h1 : -9223372036854775808 ≤ a) (h2 : a < 9223372036854775808) : VP P G f [.int .i64 a] (IV a) := by
  refine VP.has h ?_
  have hsz := wlen_small a.natAbs (by omega)
  have hs' := hs (decide (a < 0)) a.natAbs (by omega)
  rw [sgn_self] at hs'
  have hu' := hu a.natAbs (by omega)
  simp only [w_setsquareref01_FromInt, SS, Nat.reduceAdd, reduceIte, zeroI_one]
  by_cases hn : a < 0
  · have d1 : decide (a < 0) = true := dec_true hn
    rw [d1] at hs'
    have e1 : IntKind.u64.wrap (0 - (IntKind.u64.wrap a)) = (a.natAbs : Int) := by rw [IntKind.wrap_u64, IntKind.wrap_u64]; omega
    simp only [SS, Nat.reduceAdd, reduceIte, d1, e1]
    refine vsCall_VP hu' (by simp [PureAV.int]) ?_
    simp only [SS, Nat.reduceAdd, reduceIte, d1]
    refine vsCall_VP hs' (by simp [PureAV.bool, W_pure]) ?_
    simp only [SS, Nat.reduceAdd, reduceIte, store_IV]
    refine retQ_ret ▸ retQ_of_pure (r := IV a) ?_ (IV_pure _)
    simp only [RS, outAV, resAV, load_put]; rfl
  · have d1 : decide (a < 0) = false := dec_false hn
    rw [d1] at hs'
    have e1 : IntKind.u64.wrap a = (a.natAbs : Int) := by rw [IntKind.wrap_u64]; omega
    simp only [SS, Nat.reduceAdd, reduceIte, d1, e1]
    refine vsCall_VP hu' (by simp [PureAV.int]) ?_
    simp only [SS, Nat.reduceAdd, reduceIte, d1]
    refine vsCall_VP hs' (by simp [PureAV.bool, W_pure]) ?_
    simp only [SS, Nat.reduceAdd, reduceIte, store_IV]
    refine retQ_ret ▸ retQ_of_pure (r := IV a) ?_ (IV_pure _)
    simp only [RS, outAV, resAV, load_put]; rfl
end
end Go.VL
end

section
set_option linter.unusedSimpArgs false
namespace Go.VL
theorem val_drop_cons {ds : List Nat} {j a : Nat} (h : ds[j]? = some a) : val (ds.drop j) = a + B32 * val (ds.drop (j + 1)) := by
  obtain ⟨h1, h2⟩ := List.getElem?_eq_some_iff.1 h
  rw [List.drop_eq_getElem_cons h1, h2]; rfl
theorem wd_drop {ds : List Nat} (h : Wd ds) (k : Nat) : Wd (ds.drop k) := fun w hw => h w (List.mem_of_mem_drop hw)
section
variable {P : Program} {G : Nat → Option (List AV)}
theorem short_ok {f : FuncId} (h : Has P f w_setsquareref01_short) (n : Nat) (hn : n < 18446744073709551616) : VP P G f [W n] (.int .u64 (n : Int)) := by
  refine VP.has h ?_
  have hwn := wlen_small n hn
  have hwL : IntKind.i64.wrap ((wlen n : Int) - 1) = (wlen n : Int) - 1 := by rw [IntKind.wrap_i64]; omega
  simp only [w_setsquareref01_short, SS, Nat.reduceAdd, reduceIte, W_len, hwL, vwp_loop]
  refine VW.loopQ (α := Nat × Nat × Nat) (fun x => ⟨[W n, .top, .top, .int .u64 (x.2.2 : Int), .int .i64 ((x.1 : Int) - 1)] ++ List.replicate 16 .top, fun _ => none, x.2.1⟩)
    (fun x => x.1 ≤ wlen n ∧ x.2.2 = val ((digits n).drop x.1)) (fun x => x.1) (wlen n, 1000, 0) ?_ ?_ ?_
  · exact Wk.slots (by simp [Fg, List.replicate]) (by simp only []; omega)
  · refine ⟨Nat.le_refl _, ?_⟩
    show 0 = val ((digits n).drop (wlen n))
    rw [List.drop_eq_nil_of_le (show (digits n).length ≤ wlen n from Nat.le_refl _)]; rfl
  rintro ⟨k, nn, r⟩ ⟨hk, hv⟩
  simp only [] at hk hv
  by_cases h0 : k = 0
  · subst h0
    have d0 : decide ((0 : Int) ≤ ((0 : Nat) : Int) - 1) = false := by decide
    rw [List.drop_zero, val_digits] at hv
    subst hv
    simp only [SS, Nat.reduceAdd, reduceIte, d0]
    exact retQ_ret ▸ retQ_of_pure rfl (PureAV.int _ _)
  · obtain ⟨j, rfl⟩ : ∃ j, k = j + 1 := ⟨k - 1, by omega⟩
    have d0 : decide ((0 : Int) ≤ (j : Int)) = true := dec_true (by omega)
    have hj : ((j + 1 : Nat) : Int) - 1 = (j : Int) := by omega
    have hwj : IntKind.i64.wrap ((j : Int) - 1) = (j : Int) - 1 := by rw [IntKind.wrap_i64]; omega
    obtain ⟨a, ha⟩ : ∃ a, (digits n)[j]? = some a := ⟨_, List.getElem?_eq_getElem (show j < wlen n by omega)⟩
    have haw := digits_wd n a (List.mem_of_getElem? ha)
    have f1 := w64_word a haw
    have hrB : r < B32 := by
      have h1 := val_lt (wd_drop (digits_wd n) (j + 1))
      rw [← hv, List.length_drop] at h1
      have h2 : B32 ^ ((digits n).length - (j + 1)) ≤ B32 ^ 1 := Nat.pow_le_pow_right B32_pos (by show wlen n - (j + 1) ≤ 1; omega)
      rw [Nat.pow_one] at h2; omega
    have f2 := shl_hi r hrB
    have f3 := or_hi r a hrB haw
    have hv' : B32 * r + a = val ((digits n).drop j) := by rw [val_drop_cons ha, hv, Nat.add_comm]
    have hjw : j ≤ wlen n := by omega
    simp only [SS, Nat.reduceAdd, reduceIte, d0, hj, W_get ha, vload_ep, part_int, f1, f2, f3, hwj]
    exact ⟨(j, _, B32 * r + a), ⟨hjw, hv'⟩, Nat.lt_succ_self j, Wk.slots (by simp [Fg, List.replicate]) (Nat.le_refl _)⟩
theorem rcompare_ok {f : FuncId} (h : Has P f w_setsquareref01_compare) (m n : Nat) (hm : wlen m ≤ 1000000) (_hn : wlen n ≤ 1000000) : VP P G f [W m, W n] (.int .i64 (cmpN m n)) := by
  refine VP.has h ?_
  simp only [w_setsquareref01_compare, SS, Nat.reduceAdd, reduceIte, W_len]
  by_cases hl : wlen m = wlen n
  case neg =>
    have d : decide ((wlen m : Int) ≠ (wlen n : Int)) = true := dec_true (by omega)
    rcases Nat.lt_or_ge (wlen m) (wlen n) with h1 | h1
    · have h2 := lt_of_wlen h1
      have d1 : decide ((wlen m : Int) < (wlen n : Int)) = true := dec_true (by omega)
      have e : cmpN m n = -1 - 0 := by unfold cmpN; rw [cmpI_lt (by omega)]; rfl
      rw [e]
      simp only [SS, Nat.reduceAdd, reduceIte, W_len, d, d1]
      exact retQ_ret ▸ retQ_of_pure rfl (PureAV.int _ _)
    · have h1' : wlen n < wlen m := by omega
      have h2 := lt_of_wlen h1'
      have d1 : decide ((wlen m : Int) < (wlen n : Int)) = false := dec_false (by omega)
      have e : cmpN m n = 1 := by unfold cmpN; rw [cmpI_gt (by omega)]
      rw [e]
      simp only [SS, Nat.reduceAdd, reduceIte, W_len, d, d1]
      exact retQ_ret ▸ retQ_of_pure rfl (PureAV.int _ _)
  have d : decide ((wlen m : Int) ≠ (wlen n : Int)) = false := dec_false (by omega)
  have ew : IntKind.i64.wrap ((wlen m : Int) - 1) = (wlen m : Int) - 1 := by rw [IntKind.wrap_i64]; omega
  have hd0 : (digits m).drop (wlen m) = (digits n).drop (wlen m) := by
    have e1 : (digits m).drop (wlen m) = [] := List.drop_of_length_le (Nat.le_refl _)
    have e2 : (digits n).drop (wlen m) = [] := List.drop_of_length_le (by show wlen n ≤ wlen m; omega)
    rw [e1, e2]
  simp only [SS, Nat.reduceAdd, reduceIte, W_len, d, ew, vwp_loop]
  refine VW.loopQ (α := Nat × Nat) (fun x => ⟨[W m, W n, .top, .top, .top, .int .i64 ((x.1 : Int) - 1)] ++ List.replicate 35 .top, fun _ => none, x.2⟩) (fun x => x.1 ≤ wlen m ∧ (digits m).drop x.1 = (digits n).drop x.1) (fun x => x.1) (wlen m, 1000) ?_
    ⟨Nat.le_refl _, hd0⟩ ?_
  · exact Wk.slots (by simp [Fg, List.replicate]) (by simp only []; omega)
  rintro ⟨j, q⟩ ⟨hj, hd⟩
  simp only [] at hj hd
  simp only [SS, Nat.reduceAdd, reduceIte]
  by_cases h0 : j = 0
  · subst h0
    have d0 : decide ((0 : Int) ≤ ((0 : Nat) : Int) - 1) = false := by decide
    simp only [SS, Nat.reduceAdd, reduceIte, d0]
    have e : m = n := by
      simp only [List.drop_zero] at hd
      rw [← val_digits m, hd, val_digits]
    have e2 : cmpN m n = 0 := cmpI_eq (by omega)
    rw [e2]
    exact retQ_ret ▸ retQ_of_pure rfl (PureAV.int _ _)
  · have hpos : 0 < j := Nat.pos_of_ne_zero h0
    have d0 : decide ((0 : Int) ≤ ((j - 1 : Nat) : Int)) = true := dec_true (by omega)
    have ej : (j : Int) - 1 = ((j - 1 : Nat) : Int) := by omega
    have hjm : j - 1 < (digits m).length := by show j - 1 < wlen m; omega
    have hjn : j - 1 < (digits n).length := by show j - 1 < wlen n; omega
    have ew2 : IntKind.i64.wrap (((j - 1 : Nat) : Int) - 1) = ((j - 1 : Nat) : Int) - 1 := by rw [IntKind.wrap_i64]; omega
    obtain ⟨x, hx⟩ : ∃ x, (digits m)[j - 1]? = some x := ⟨_, List.getElem?_eq_getElem hjm⟩
    obtain ⟨y, hy⟩ : ∃ y, (digits n)[j - 1]? = some y := ⟨_, List.getElem?_eq_getElem hjn⟩
    have hd' : (digits m).drop (j - 1 + 1) = (digits n).drop (j - 1 + 1) := by rw [show j - 1 + 1 = j from by omega]; exact hd
    rcases Nat.lt_trichotomy x y with h1 | h1 | h1
    · have e : cmpN m n = -1 - 0 := by
        have := val_cmp (digits_wd m) (digits_wd n) hl hx hy hd' h1
        rw [val_digits, val_digits] at this
        unfold cmpN; rw [cmpI_lt (by omega)]; rfl
      have d1 : decide ((x : Int) < (y : Int)) = true := dec_true (by omega)
      rw [e]
      simp only [SS, DD, Nat.reduceAdd, reduceIte, d0, ej, W_get hx, W_get hy, vload_ep, part_int, d1]
      refine ⟨by simp [allApart], ?_⟩
      exact retQ_ret ▸ retQ_of_pure rfl (PureAV.int _ _)
    · have d1 : decide ((x : Int) < (y : Int)) = false := dec_false (by omega)
      have d2 : decide ((y : Int) < (x : Int)) = false := dec_false (by omega)
      simp only [SS, DD, Nat.reduceAdd, reduceIte, d0, ej, W_get hx, W_get hy, vload_ep, part_int, d1, ew2]
      refine ⟨by simp [allApart], ?_⟩
      simp only [SS, DD, Nat.reduceAdd, reduceIte, d0, ej, W_get hx, W_get hy, vload_ep, part_int, d2, ew2]
      refine ⟨by simp [allApart], (j - 1, _), ⟨by simp only []; omega, ?_⟩, by simp only []; omega, Wk.slots (by simp [Fg, List.replicate]) (Nat.le_refl _)⟩
      simp only []
      rw [List.drop_eq_getElem_cons hjm, List.drop_eq_getElem_cons hjn, hd']
      obtain ⟨_, h1'⟩ := List.getElem?_eq_some_iff.1 hx
      obtain ⟨_, h2'⟩ := List.getElem?_eq_some_iff.1 hy
      rw [h1', h2', h1]
    · have e : cmpN m n = 1 := by
        have := val_cmp (digits_wd n) (digits_wd m) hl.symm hy hx hd'.symm h1
        rw [val_digits, val_digits] at this
        unfold cmpN; rw [cmpI_gt (by omega)]
      have d1 : decide ((x : Int) < (y : Int)) = false := dec_false (by omega)
      have d2 : decide ((y : Int) < (x : Int)) = true := dec_true (by omega)
      rw [e]
      simp only [SS, DD, Nat.reduceAdd, reduceIte, d0, ej, W_get hx, W_get hy, vload_ep, part_int, d1]
      refine ⟨by simp [allApart], ?_⟩
      simp only [SS, DD, Nat.reduceAdd, reduceIte, d0, ej, W_get hx, W_get hy, vload_ep, part_int, d2, ew2]
      refine ⟨by simp [allApart], ?_⟩
      exact retQ_ret ▸ retQ_of_pure rfl (PureAV.int _ _)
end
end Go.VL
end

section
set_option linter.unusedSimpArgs false
namespace Go.VL
theorem sub_step3 {x y c : Nat} (hx : x < B32) (hy : y < B32) (hc : c ≤ 1) : ∃ w c' : Nat, w < B32 ∧ c' ≤ 1 ∧ w + y + c = x + B32 * c' ∧
    (∃ d : Nat, IntKind.u64.wrap (IntKind.u64.wrap (IntKind.u64.wrap ((x : Int) + 4294967296) - (y : Int)) - (c : Int)) = (d : Int) ∧ IntKind.u32.wrap (d : Int) = (w : Int) ∧ IntKind.u64.wrap (1 - ((d / B32 : Nat) : Int)) = (c' : Int)) := by
  have h1 : IntKind.u64.wrap ((x : Int) + 4294967296) = ((x + 4294967296 : Nat) : Int) := by rw [IntKind.wrap_u64]; unfold B32 at *; omega
  have h2 : IntKind.u64.wrap (((x + 4294967296 : Nat) : Int) - (y : Int)) = ((x + 4294967296 - y : Nat) : Int) := by rw [IntKind.wrap_u64]; unfold B32 at *; omega
  have h3 : IntKind.u64.wrap (((x + 4294967296 - y : Nat) : Int) - (c : Int)) = ((x + 4294967296 - y - c : Nat) : Int) := by rw [IntKind.wrap_u64]; unfold B32 at *; omega
  rw [h1, h2, h3]
  unfold B32 at *
  by_cases h : y + c ≤ x
  · refine ⟨x - y - c, 0, by omega, by omega, by omega, _, rfl, ?_, ?_⟩
    · rw [IntKind.wrap_u32]; omega
    · rw [IntKind.wrap_u64]; omega
  · refine ⟨x + 4294967296 - y - c, 1, by omega, by omega, by omega, _, rfl, ?_, ?_⟩
    · rw [IntKind.wrap_u32]; omega
    · rw [IntKind.wrap_u64]; omega
section
variable {P : Program} {G : Nat → Option (List AV)}
set_option maxHeartbeats 1000000 in
theorem rplus_ok {f ft : FuncId} (h : Has P f (w_setsquareref01_plus ft)) (ht : TrimC P G ft) (m n : Nat) (hm : wlen m ≤ 1000000) (hn : wlen n ≤ 1000000) : VP P G f [W m, W n] (W (m + n)) := by
  refine VP.has h ?_
  simp only [w_setsquareref01_plus, SS, Nat.reduceAdd, reduceIte, W_len]
  by_cases hswfalse : (¬ wlen m < wlen n)
  · have d0 : decide ((wlen m : Int) < (wlen n : Int)) = false := by first | exact dec_true (by omega) | exact dec_false (by omega)
    have hL := add_i64 (wlen m) 1 (by omega)
    have hL' : IntKind.i64.wrap ((wlen m : Int) + 1) = ((wlen m + 1 : Nat) : Int) := hL
    have hmk : ∀ p : Id, vmksl p 1 4 (.int .u32 0) (.int .i64 ((wlen m + 1 : Nat) : Int)) (.int .i64 ((wlen m + 1 : Nat) : Int)) = some { val := .osl p 1 0 (wlen m + 1) false, up := [(p, some ⟨us (List.replicate (wlen m + 1) 0), 1, false⟩)] } := fun p => mkz_us (by omega)
    simp only [SS, Nat.reduceAdd, reduceIte, W_len, d0, hL', hmk, vwp_loop]
    refine VW.loopQ (α := Nat × Nat × List Nat × Nat) (fun x => ⟨[W m, W n, .top, .top, .top, .osl [9] 1 0 (wlen m + 1) false, .int .u64 (x.2.2.2 : Int), .int .i64 (x.1 : Int)] ++ List.replicate 50 .top,
      Store.put (fun _ => none) [9] (some ⟨us (x.2.2.1 ++ zs (wlen m + 1 - x.1)), 1, false⟩), x.2.1⟩)
      (fun x => x.1 ≤ wlen m ∧ x.2.2.1.length = x.1 ∧ Wd x.2.2.1 ∧ x.2.2.2 ≤ 1 ∧ val x.2.2.1 + B32 ^ x.1 * x.2.2.2 = val ((digits m).take x.1) + val ((digits n).take x.1)) (fun x => wlen m - x.1) (0, 1000, [], 0) ?_ ?_ ?_
    · exact Wk.slots (by simp [Fg, List.replicate]) (by simp only []; omega)
    · exact ⟨Nat.zero_le _, rfl, by intro w hw; simp at hw, Nat.zero_le _, by simp [val]⟩
    rintro ⟨i, nn, o, c⟩ ⟨hi, ho, hwd, hc, hv⟩
    simp only [] at hi ho hwd hc hv
    have hd1 : i < wlen m → decide ((i : Int) < (wlen m : Int)) = true := fun h => dec_true (by omega)
    have hd2 : ¬ i < wlen m → decide ((i : Int) < (wlen m : Int)) = false := fun h => dec_false (by omega)
    have hd3 : i < wlen n → decide ((i : Int) < (wlen n : Int)) = true := fun h => dec_true (by omega)
    have hd4 : ¬ i < wlen n → decide ((i : Int) < (wlen n : Int)) = false := fun h => dec_false (by omega)
    have hie : ¬ i < wlen m → i = wlen m := by omega
    have hwi := wrap_succ_i64 i (by omega)
    have hs1 : i < wlen m → i + 1 ≤ wlen m ∧ wlen m - (i + 1) < wlen m - i := fun h => by omega
    have hia := iaddr_own (q := [9]) (t := false) (show i < wlen m + 1 by omega)
    obtain ⟨k, hk⟩ : ∃ k, wlen m + 1 - i = k + 1 := ⟨wlen m - i, by omega⟩
    have hk1 : wlen m + 1 - (i + 1) = k := by omega
    have hl1 : i < (o ++ 0 :: zs k).length := by simp; omega
    by_cases hlt : i < wlen m
    · obtain ⟨x, hx⟩ : ∃ x, (digits m)[i]? = some x := ⟨_, List.getElem?_eq_getElem hlt⟩
      have hxw := digits_wd m x (List.mem_of_getElem? hx)
      have f1 := w64_word x hxw
      have f2 := add64 c x (by unfold B32 at hxw; omega)
      by_cases hb : i < wlen n
      · obtain ⟨y, hy⟩ : ∃ y, (digits n)[i]? = some y := ⟨_, List.getElem?_eq_getElem hb⟩
        have hyw := digits_wd n y (List.mem_of_getElem? hy)
        have f3 := w64_word y hyw
        have f4 := add64 (c + x) y (by unfold B32 at hxw hyw; omega)
        have hst := sum_step (x := x) (y := y) ho hv rfl
        have hc' : (c + x + y) / B32 ≤ 1 := by unfold B32 at *; omega
        simp only [SS, Nat.reduceAdd, reduceIte, W_len, hd1 hlt, W_get hx, vload_ep, part_int, f1, f2, hd3 hb, W_get hy, f3, f4, hia, w32, hk, zs_succ]
        rw [store_us (o := o ++ 0 :: zs k) (by simp [Store.put]) hl1, set_mid _ _ _ _ ho]
        simp only [SS, Nat.reduceAdd, reduceIte, shr32, hwi]
        refine ⟨(i + 1, _, o ++ [(c + x + y) % B32], (c + x + y) / B32), ⟨(hs1 hlt).1, by simp [ho], wd_snoc hwd _, hc', ?_⟩, (hs1 hlt).2, Wk.forget (by simp [Fg, List.replicate]) (fun j => ?_) (Nat.le_refl _)⟩
        · show val (o ++ [(c + x + y) % B32]) + _ = val ((digits m).take (i + 1)) + val ((digits n).take (i + 1))
          rw [val_take_succ hx, val_take_succ hy]; exact hst
        · simp only [Store.put, hk1]; split <;> simp
      · have hst := sum_step (x := x) (y := 0) ho hv rfl
        rw [Nat.mul_zero, Nat.add_zero, Nat.add_zero] at hst
        have hc' : (c + x) / B32 ≤ 1 := by unfold B32 at *; omega
        simp only [SS, Nat.reduceAdd, reduceIte, W_len, hd1 hlt, W_get hx, vload_ep, part_int, f1, f2, hd4 hb, hia, w32, hk, zs_succ]
        rw [store_us (o := o ++ 0 :: zs k) (by simp [Store.put]) hl1, set_mid _ _ _ _ ho]
        simp only [SS, Nat.reduceAdd, reduceIte, shr32, hwi]
        refine ⟨(i + 1, _, o ++ [(c + x) % B32], (c + x) / B32), ⟨(hs1 hlt).1, by simp [ho], wd_snoc hwd _, hc', ?_⟩, (hs1 hlt).2, Wk.forget (by simp [Fg, List.replicate]) (fun j => ?_) (Nat.le_refl _)⟩
        · show val (o ++ [(c + x) % B32]) + _ = val ((digits m).take (i + 1)) + val ((digits n).take (i + 1))
          rw [val_take_succ hx, val_take_past (show (digits n).length ≤ i from by show wlen n ≤ i; omega)]; exact hst
        · simp only [Store.put, hk1]; split <;> simp
    · have hiw := hie hlt
      have hcB : c < B32 := by unfold B32; omega
      have f5 : IntKind.u32.wrap (c : Int) = (c : Int) := by rw [w32, Nat.mod_eq_of_lt hcB]
      have hia2 := iaddr_own (q := [9]) (t := false) (show wlen m < wlen m + 1 by omega)
      have hk0 : k = 0 := by omega
      have hl2 : wlen m < (o ++ 0 :: zs k).length := by simp; omega
      have e1 : (digits m).take (wlen m) = digits m := List.take_of_length_le (Nat.le_refl _)
      have e2 : (digits n).take (wlen m) = digits n := List.take_of_length_le (by show wlen n ≤ wlen m; omega)
      have hvo : val (o ++ [c]) = m + n := by
        rw [val_append, ho]; simp only [val, Nat.mul_zero, Nat.add_zero]
        rw [hv, hiw, e1, e2, val_digits, val_digits]
        all_goals omega
      have hwo : Wd (o ++ [c]) := wd_append hwd (by intro z hz; simp at hz; subst hz; exact hcB)
      have hlo : wlen m + 1 = (o ++ [c]).length := by simp [ho, hiw]
      have ht' := ht (o ++ [c]) hwo (by rw [← hlo]; omega)
      rw [hvo] at ht'
      simp only [SS, Nat.reduceAdd, reduceIte, W_len, hd2 hlt, f5, hia2, hk, zs_succ]
      rw [store_us (o := o ++ 0 :: zs k) (by simp [Store.put]) hl2, set_mid _ _ _ _ (ho.trans hiw), hk0, zs_zero]
      simp only [SS, Nat.reduceAdd, reduceIte]
      refine vsCall_view [([9], ⟨us (o ++ [c]), 1, false⟩)] ht' (ViewL.cons (view_us hlo) ViewL.nil) (by simp [Store.put]) ?_
      simp only [SS, Nat.reduceAdd, reduceIte]
      exact retQ_ret ▸ retQ_of_pure rfl (W_pure _)
  by_cases hswtrue : (wlen m < wlen n)
  · have d0 : decide ((wlen m : Int) < (wlen n : Int)) = true := by first | exact dec_true (by omega) | exact dec_false (by omega)
    have hL := add_i64 (wlen n) 1 (by omega)
    have hL' : IntKind.i64.wrap ((wlen n : Int) + 1) = ((wlen n + 1 : Nat) : Int) := hL
    have hmk : ∀ p : Id, vmksl p 1 4 (.int .u32 0) (.int .i64 ((wlen n + 1 : Nat) : Int)) (.int .i64 ((wlen n + 1 : Nat) : Int)) = some { val := .osl p 1 0 (wlen n + 1) false, up := [(p, some ⟨us (List.replicate (wlen n + 1) 0), 1, false⟩)] } := fun p => mkz_us (by omega)
    simp only [SS, Nat.reduceAdd, reduceIte, W_len, d0, hL', hmk, vwp_loop]
    refine VW.loopQ (α := Nat × Nat × List Nat × Nat) (fun x => ⟨[W n, W m, .top, .top, .top, .osl [13] 1 0 (wlen n + 1) false, .int .u64 (x.2.2.2 : Int), .int .i64 (x.1 : Int)] ++ List.replicate 50 .top,
      Store.put (fun _ => none) [13] (some ⟨us (x.2.2.1 ++ zs (wlen n + 1 - x.1)), 1, false⟩), x.2.1⟩)
      (fun x => x.1 ≤ wlen n ∧ x.2.2.1.length = x.1 ∧ Wd x.2.2.1 ∧ x.2.2.2 ≤ 1 ∧ val x.2.2.1 + B32 ^ x.1 * x.2.2.2 = val ((digits n).take x.1) + val ((digits m).take x.1)) (fun x => wlen n - x.1) (0, 1000, [], 0) ?_ ?_ ?_
    · exact Wk.slots (by simp [Fg, List.replicate]) (by simp only []; omega)
    · exact ⟨Nat.zero_le _, rfl, by intro w hw; simp at hw, Nat.zero_le _, by simp [val]⟩
    rintro ⟨i, nn, o, c⟩ ⟨hi, ho, hwd, hc, hv⟩
    simp only [] at hi ho hwd hc hv
    have hd1 : i < wlen n → decide ((i : Int) < (wlen n : Int)) = true := fun h => dec_true (by omega)
    have hd2 : ¬ i < wlen n → decide ((i : Int) < (wlen n : Int)) = false := fun h => dec_false (by omega)
    have hd3 : i < wlen m → decide ((i : Int) < (wlen m : Int)) = true := fun h => dec_true (by omega)
    have hd4 : ¬ i < wlen m → decide ((i : Int) < (wlen m : Int)) = false := fun h => dec_false (by omega)
    have hie : ¬ i < wlen n → i = wlen n := by omega
    have hwi := wrap_succ_i64 i (by omega)
    have hs1 : i < wlen n → i + 1 ≤ wlen n ∧ wlen n - (i + 1) < wlen n - i := fun h => by omega
    have hia := iaddr_own (q := [13]) (t := false) (show i < wlen n + 1 by omega)
    obtain ⟨k, hk⟩ : ∃ k, wlen n + 1 - i = k + 1 := ⟨wlen n - i, by omega⟩
    have hk1 : wlen n + 1 - (i + 1) = k := by omega
    have hl1 : i < (o ++ 0 :: zs k).length := by simp; omega
    by_cases hlt : i < wlen n
    · obtain ⟨x, hx⟩ : ∃ x, (digits n)[i]? = some x := ⟨_, List.getElem?_eq_getElem hlt⟩
      have hxw := digits_wd n x (List.mem_of_getElem? hx)
      have f1 := w64_word x hxw
      have f2 := add64 c x (by unfold B32 at hxw; omega)
      by_cases hb : i < wlen m
      · obtain ⟨y, hy⟩ : ∃ y, (digits m)[i]? = some y := ⟨_, List.getElem?_eq_getElem hb⟩
        have hyw := digits_wd m y (List.mem_of_getElem? hy)
        have f3 := w64_word y hyw
        have f4 := add64 (c + x) y (by unfold B32 at hxw hyw; omega)
        have hst := sum_step (x := x) (y := y) ho hv rfl
        have hc' : (c + x + y) / B32 ≤ 1 := by unfold B32 at *; omega
        simp only [SS, Nat.reduceAdd, reduceIte, W_len, hd1 hlt, W_get hx, vload_ep, part_int, f1, f2, hd3 hb, W_get hy, f3, f4, hia, w32, hk, zs_succ]
        rw [store_us (o := o ++ 0 :: zs k) (by simp [Store.put]) hl1, set_mid _ _ _ _ ho]
        simp only [SS, Nat.reduceAdd, reduceIte, shr32, hwi]
        refine ⟨(i + 1, _, o ++ [(c + x + y) % B32], (c + x + y) / B32), ⟨(hs1 hlt).1, by simp [ho], wd_snoc hwd _, hc', ?_⟩, (hs1 hlt).2, Wk.forget (by simp [Fg, List.replicate]) (fun j => ?_) (Nat.le_refl _)⟩
        · show val (o ++ [(c + x + y) % B32]) + _ = val ((digits n).take (i + 1)) + val ((digits m).take (i + 1))
          rw [val_take_succ hx, val_take_succ hy]; exact hst
        · simp only [Store.put, hk1]; split <;> simp
      · have hst := sum_step (x := x) (y := 0) ho hv rfl
        rw [Nat.mul_zero, Nat.add_zero, Nat.add_zero] at hst
        have hc' : (c + x) / B32 ≤ 1 := by unfold B32 at *; omega
        simp only [SS, Nat.reduceAdd, reduceIte, W_len, hd1 hlt, W_get hx, vload_ep, part_int, f1, f2, hd4 hb, hia, w32, hk, zs_succ]
        rw [store_us (o := o ++ 0 :: zs k) (by simp [Store.put]) hl1, set_mid _ _ _ _ ho]
        simp only [SS, Nat.reduceAdd, reduceIte, shr32, hwi]
        refine ⟨(i + 1, _, o ++ [(c + x) % B32], (c + x) / B32), ⟨(hs1 hlt).1, by simp [ho], wd_snoc hwd _, hc', ?_⟩, (hs1 hlt).2, Wk.forget (by simp [Fg, List.replicate]) (fun j => ?_) (Nat.le_refl _)⟩
        · show val (o ++ [(c + x) % B32]) + _ = val ((digits n).take (i + 1)) + val ((digits m).take (i + 1))
          rw [val_take_succ hx, val_take_past (show (digits m).length ≤ i from by show wlen m ≤ i; omega)]; exact hst
        · simp only [Store.put, hk1]; split <;> simp
    · have hiw := hie hlt
      have hcB : c < B32 := by unfold B32; omega
      have f5 : IntKind.u32.wrap (c : Int) = (c : Int) := by rw [w32, Nat.mod_eq_of_lt hcB]
      have hia2 := iaddr_own (q := [13]) (t := false) (show wlen n < wlen n + 1 by omega)
      have hk0 : k = 0 := by omega
      have hl2 : wlen n < (o ++ 0 :: zs k).length := by simp; omega
      have e1 : (digits n).take (wlen n) = digits n := List.take_of_length_le (Nat.le_refl _)
      have e2 : (digits m).take (wlen n) = digits m := List.take_of_length_le (by show wlen m ≤ wlen n; omega)
      have hvo : val (o ++ [c]) = m + n := by
        rw [val_append, ho]; simp only [val, Nat.mul_zero, Nat.add_zero]
        rw [hv, hiw, e1, e2, val_digits, val_digits]
        all_goals omega
      have hwo : Wd (o ++ [c]) := wd_append hwd (by intro z hz; simp at hz; subst hz; exact hcB)
      have hlo : wlen n + 1 = (o ++ [c]).length := by simp [ho, hiw]
      have ht' := ht (o ++ [c]) hwo (by rw [← hlo]; omega)
      rw [hvo] at ht'
      simp only [SS, Nat.reduceAdd, reduceIte, W_len, hd2 hlt, f5, hia2, hk, zs_succ]
      rw [store_us (o := o ++ 0 :: zs k) (by simp [Store.put]) hl2, set_mid _ _ _ _ (ho.trans hiw), hk0, zs_zero]
      simp only [SS, Nat.reduceAdd, reduceIte]
      refine vsCall_view [([13], ⟨us (o ++ [c]), 1, false⟩)] ht' (ViewL.cons (view_us hlo) ViewL.nil) (by simp [Store.put]) ?_
      simp only [SS, Nat.reduceAdd, reduceIte]
      exact retQ_ret ▸ retQ_of_pure rfl (W_pure _)
  exact absurd hswtrue hswfalse
set_option maxHeartbeats 1000000 in
theorem rminus_ok {f ft : FuncId} (h : Has P f (w_setsquareref01_minus ft)) (ht : TrimC P G ft) (m n : Nat) (hnm : n ≤ m) (hm : wlen m ≤ 1000000) : VP P G f [W m, W n] (W (m - n)) := by
  refine VP.has h ?_
  have hwn := wlen_mono hnm
  have hmk : ∀ p : Id, vmksl p 1 4 (.int .u32 0) (.int .i64 (wlen m : Int)) (.int .i64 (wlen m : Int)) = some { val := .osl p 1 0 (wlen m) false, up := [(p, some ⟨us (List.replicate (wlen m) 0), 1, false⟩)] } := fun p => mkz_us (by omega)
  simp only [w_setsquareref01_minus, SS, Nat.reduceAdd, reduceIte, W_len, hmk, vwp_loop]
  refine VW.loopQ (α := Nat × Nat × List Nat × Nat) (fun x => ⟨[W m, W n, .top, .top, .top, .osl [3] 1 0 (wlen m) false, .int .u64 (x.2.2.2 : Int), .int .i64 (x.1 : Int)] ++ List.replicate 40 .top,
    Store.put (fun _ => none) [3] (some ⟨us (x.2.2.1 ++ zs (wlen m - x.1)), 1, false⟩), x.2.1⟩)
    (fun x => x.1 ≤ wlen m ∧ x.2.2.1.length = x.1 ∧ Wd x.2.2.1 ∧ x.2.2.2 ≤ 1 ∧ val x.2.2.1 + val ((digits n).take x.1) = val ((digits m).take x.1) + B32 ^ x.1 * x.2.2.2) (fun x => wlen m - x.1) (0, 1000, [], 0) ?_ ?_ ?_
  · exact Wk.slots (by simp [Fg, List.replicate]) (by simp only []; omega)
  · exact ⟨Nat.zero_le _, rfl, by intro w hw; simp at hw, Nat.zero_le _, by simp [val]⟩
  rintro ⟨i, nn, o, c⟩ ⟨hi, ho, hwd, hc, hv⟩
  simp only [] at hi ho hwd hc hv
  have hd1 : i < wlen m → decide ((i : Int) < (wlen m : Int)) = true := fun h => dec_true (by omega)
  have hd2 : ¬ i < wlen m → decide ((i : Int) < (wlen m : Int)) = false := fun h => dec_false (by omega)
  have hd3 : i < wlen n → decide ((i : Int) < (wlen n : Int)) = true := fun h => dec_true (by omega)
  have hd4 : ¬ i < wlen n → decide ((i : Int) < (wlen n : Int)) = false := fun h => dec_false (by omega)
  have hie : ¬ i < wlen m → i = wlen m := by omega
  have hwi := wrap_succ_i64 i (by omega)
  have hs1 : i < wlen m → i + 1 ≤ wlen m ∧ wlen m - (i + 1) < wlen m - i := fun h => by omega
  by_cases hlt : i < wlen m
  · obtain ⟨x, hx⟩ : ∃ x, (digits m)[i]? = some x := ⟨_, List.getElem?_eq_getElem hlt⟩
    have hxw := digits_wd m x (List.mem_of_getElem? hx)
    have f1 := w64_word x hxw
    have hia := iaddr_own (q := [3]) (t := false) hlt
    obtain ⟨k, hk⟩ : ∃ k, wlen m - i = k + 1 := ⟨wlen m - i - 1, by omega⟩
    have hk1 : wlen m - (i + 1) = k := by omega
    have hl1 : i < (o ++ 0 :: zs k).length := by simp; omega
    by_cases hb : i < wlen n
    · obtain ⟨y, hy⟩ : ∃ y, (digits n)[i]? = some y := ⟨_, List.getElem?_eq_getElem hb⟩
      have hyw := digits_wd n y (List.mem_of_getElem? hy)
      have f3 := w64_word y hyw
      obtain ⟨w, c', h1, h2, h3, d, h4, h5, h6⟩ := sub_step3 hxw hyw hc
      have hst := diff_step (va := val ((digits m).take i)) (vb := val ((digits n).take i)) (x := x) (y := y) (c := c) (w := w) (c' := c') ho (by rw [hv]; omega) h3
      simp only [SS, Nat.reduceAdd, reduceIte, W_len, hd1 hlt, W_get hx, vload_ep, part_int, f1, hd3 hb, W_get hy, f3, h4, h5, hia, hk, zs_succ]
      rw [store_us (o := o ++ 0 :: zs k) (by simp [Store.put]) hl1, set_mid _ _ _ _ ho]
      simp only [SS, Nat.reduceAdd, reduceIte, shr32, h6, hwi]
      refine ⟨(i + 1, _, o ++ [w], c'), ⟨(hs1 hlt).1, by simp [ho], wd_append hwd (by intro z hz; simp at hz; subst hz; exact h1), h2, ?_⟩, (hs1 hlt).2, Wk.forget (by simp [Fg, List.replicate]) (fun j => ?_) (Nat.le_refl _)⟩
      · show val (o ++ [w]) + val ((digits n).take (i + 1)) = val ((digits m).take (i + 1)) + _
        rw [val_take_succ hx, val_take_succ hy]; exact hst
      · simp only [Store.put, hk1]; split <;> simp
    · obtain ⟨w, c', h1, h2, h3, d, h4, h5, h6⟩ := sub_step3 (y := 0) hxw B32_pos hc
      have h4' : IntKind.u64.wrap (IntKind.u64.wrap (IntKind.u64.wrap ((x : Int) + 4294967296) - 0) - (c : Int)) = (d : Int) := h4
      have hst := diff_step (va := val ((digits m).take i)) (vb := val ((digits n).take i)) (x := x) (y := 0) (c := c) (w := w) (c' := c') ho (by rw [hv]; omega) h3
      rw [Nat.mul_zero, Nat.add_zero] at hst
      simp only [SS, Nat.reduceAdd, reduceIte, W_len, hd1 hlt, W_get hx, vload_ep, part_int, f1, hd4 hb, h4', h5, hia, hk, zs_succ]
      rw [store_us (o := o ++ 0 :: zs k) (by simp [Store.put]) hl1, set_mid _ _ _ _ ho]
      simp only [SS, Nat.reduceAdd, reduceIte, shr32, h6, hwi]
      refine ⟨(i + 1, _, o ++ [w], c'), ⟨(hs1 hlt).1, by simp [ho], wd_append hwd (by intro z hz; simp at hz; subst hz; exact h1), h2, ?_⟩, (hs1 hlt).2, Wk.forget (by simp [Fg, List.replicate]) (fun j => ?_) (Nat.le_refl _)⟩
      · show val (o ++ [w]) + val ((digits n).take (i + 1)) = val ((digits m).take (i + 1)) + _
        rw [val_take_succ hx, val_take_past (show (digits n).length ≤ i from by show wlen n ≤ i; omega)]; exact hst
      · simp only [Store.put, hk1]; split <;> simp
  · have hiw := hie hlt
    have e1 : (digits m).take (wlen m) = digits m := List.take_of_length_le (Nat.le_refl _)
    have e2 : (digits n).take (wlen m) = digits n := List.take_of_length_le (by show wlen n ≤ wlen m; omega)
    have hvo : val o = m - n := by
      rw [hiw, e1, e2, val_digits, val_digits] at hv
      have hlt2 := val_lt hwd
      rw [ho, hiw] at hlt2
      rcases Nat.eq_zero_or_pos c with h0 | h0
      · subst h0; omega
      · have : c = 1 := by omega
        subst this; have := lt_pow_wlen m; omega
    have hlo : wlen m = o.length := by omega
    have e3 : zs (wlen m - i) = [] := by rw [hiw, Nat.sub_self]; rfl
    have ht' := ht o hwd (by omega)
    rw [hvo] at ht'
    simp only [SS, Nat.reduceAdd, reduceIte, W_len, hd2 hlt, e3, List.append_nil]
    refine vsCall_view [([3], ⟨us o, 1, false⟩)] ht' (ViewL.cons (view_us hlo) ViewL.nil) (by simp [Store.put]) ?_
    simp only [SS, Nat.reduceAdd, reduceIte]
    exact retQ_ret ▸ retQ_of_pure rfl (W_pure _)
end
end Go.VL
end

section
set_option linter.unusedSimpArgs false
namespace Go.VL
section
variable {P : Program} {G : Nat → Option (List AV)}
set_option maxHeartbeats 1000000 in
theorem rtimesR_ok {f ft : FuncId} (h : Has P f (w_setsquareref01_times ft)) (ht : TrimC P G ft) (m : Nat) {ws : List Nat} (hws : Wd ws) (hm : wlen m ≤ 1000000) (hn : ws.length ≤ 1000000) : VP P G f [W m, .sl 1 (us ws)] (W (m * val ws)) := by
  refine VP.has h ?_
  have hmk : ∀ p : Id, vmksl p 1 4 (.int .u32 0) (.int .i64 ((wlen m + ws.length : Nat) : Int)) (.int .i64 ((wlen m + ws.length : Nat) : Int)) = some { val := .osl p 1 0 (wlen m + ws.length) false, up := [(p, some ⟨us (List.replicate (wlen m + ws.length) 0), 1, false⟩)] } := fun p => mkz_us (by omega)
  have hL := add_i64 (wlen m) (ws.length) (by omega)
  simp only [w_setsquareref01_times, SS, Nat.reduceAdd, reduceIte, W_len, us_len, hL, hmk, vwp_loop]
  refine VW.loopQ (α := Nat × Nat × List Nat) (fun x => ⟨[W m, .sl 1 (us ws), .top, .top, .top, .osl [6] 1 0 (wlen m + ws.length) false, .int .i64 (x.1 : Int)] ++ List.replicate 60 .top,
    Store.put (fun _ => none) [6] (some ⟨us x.2.2, 1, false⟩), x.2.1⟩)
    (fun x => x.1 ≤ wlen m ∧ x.2.2.length = wlen m + ws.length ∧ Wd x.2.2 ∧ val x.2.2 = val ((digits m).take x.1) * val ws) (fun x => wlen m - x.1) (0, 1000, List.replicate (wlen m + ws.length) 0) ?_ ?_ ?_
  · exact Wk.slots (by simp [Fg, List.replicate]) (by simp only []; omega)
  · exact ⟨Nat.zero_le _, List.length_replicate .., wd_zeros _, by simp only []; rw [val_zeros (fun w hw => List.eq_of_mem_replicate hw)]; simp [val]⟩
  rintro ⟨i, nn, o⟩ ⟨hi, ho, hwd, hv⟩
  simp only [] at hi ho hwd hv
  have hd1 : i < wlen m → decide ((i : Int) < (wlen m : Int)) = true := fun h => dec_true (by omega)
  have hd2 : ¬ i < wlen m → decide ((i : Int) < (wlen m : Int)) = false := fun h => dec_false (by omega)
  have hie : ¬ i < wlen m → i = wlen m := by omega
  have hwi := wrap_succ_i64 i (by omega)
  have hs1 : i < wlen m → i + 1 ≤ wlen m ∧ wlen m - (i + 1) < wlen m - i := fun h => by omega
  have hin := add_i64 i (ws.length) (by omega)
  have hina : i < wlen m → i + ws.length < wlen m + ws.length := fun h => by omega
  by_cases hlt : i < wlen m
  · obtain ⟨a, ha⟩ : ∃ a, (digits m)[i]? = some a := ⟨_, List.getElem?_eq_getElem hlt⟩
    have haw := digits_wd m a (List.mem_of_getElem? ha)
    have f1 := w64_word a haw
    have hz0 : o[i + ws.length]? = some 0 := by
      obtain ⟨y, hy⟩ : ∃ y, o[i + ws.length]? = some y := ⟨_, List.getElem?_eq_getElem (by rw [ho]; exact hina hlt)⟩
      have e := zero_above (k := i + ws.length) (by
        rw [hv, Nat.pow_add]
        have h2 : val ((digits m).take i) < B32 ^ i := by
          have := val_lt (wd_take (digits_wd m) i)
          rwa [List.length_take, Nat.min_eq_left (show i ≤ (digits m).length from Nat.le_of_lt hlt)] at this
        exact Nat.mul_lt_mul'' h2 (val_lt hws)) hy
      rw [e] at hy; exact hy
    simp only [SS, Nat.reduceAdd, reduceIte, W_len, us_len, hd1 hlt, vwp_loop]
    refine VW.loopQ (α := Nat × Nat × List Nat × Nat) (fun x => ⟨[W m, .sl 1 (us ws), .top, .top, .top, .osl [6] 1 0 (wlen m + ws.length) false, .int .i64 (i : Int), .int .u64 (x.2.2.2 : Int), .int .i64 (x.1 : Int)] ++ List.replicate 58 .top,
      Store.put (fun _ => none) [6] (some ⟨us x.2.2.1, 1, false⟩), x.2.1⟩)
      (fun x => x.1 ≤ ws.length ∧ x.2.2.1.length = wlen m + ws.length ∧ Wd x.2.2.1 ∧ x.2.2.2 < B32 ∧ x.2.2.1[i + ws.length]? = some 0 ∧ val x.2.2.1 + B32 ^ (i + x.1) * x.2.2.2 = val o + B32 ^ i * (a * val (ws.take x.1))) (fun x => ws.length - x.1) (0, nn + 1000, o, 0) ?_ ?_ ?_
    · exact Wk.slots (by simp [Fg, List.replicate]) (by simp only []; omega)
    · exact ⟨Nat.zero_le _, ho, hwd, B32_pos, hz0, by simp [val]⟩
    rintro ⟨j, mm, o', c⟩ ⟨hj, ho', hwd', hc, hz, hv'⟩
    simp only [] at hj ho' hwd' hc hz hv'
    have hd3 : j < ws.length → decide ((j : Int) < (ws.length : Int)) = true := fun h => dec_true (by omega)
    have hd4 : ¬ j < ws.length → decide ((j : Int) < (ws.length : Int)) = false := fun h => dec_false (by omega)
    have hje : ¬ j < ws.length → j = ws.length := by omega
    have hwj := wrap_succ_i64 j (by omega)
    have hs2 : j < ws.length → j + 1 ≤ ws.length ∧ ws.length - (j + 1) < ws.length - j := fun h => by omega
    have hij := add_i64 i j (by omega)
    have hija : j < ws.length → i + j < wlen m + ws.length := fun h => by omega
    have hne : j < ws.length → i + j ≠ i + ws.length := fun h => by omega
    by_cases hjt : j < ws.length
    · obtain ⟨b, hb⟩ : ∃ b, ws[j]? = some b := ⟨_, List.getElem?_eq_getElem hjt⟩
      have hbw := hws b (List.mem_of_getElem? hb)
      have f2 := w64_word b hbw
      obtain ⟨z, hzz⟩ : ∃ z, o'[i + j]? = some z := ⟨_, List.getElem?_eq_getElem (by rw [ho']; exact hija hjt)⟩
      have hzw := hwd' z (List.mem_of_getElem? hzz)
      have f3 := w64_word z hzw
      have f4 := mul64 a b haw hbw
      have hle := mul_le haw hbw
      have f5 := add64 c z (by unfold B32 at hzw hc; omega)
      have f6 := add64 (c + z) (a * b) (by unfold B32 at hzw hc; omega)
      have hc' : (c + z + a * b) / B32 < B32 := by unfold B32 at hzw hc ⊢; omega
      have hia := iaddr_own (q := [6]) (t := false) (hija hjt)
      have hst := prod_step (x := a) (y := b) (s := c + z + a * b) hzz hv' (by omega)
      simp only [SS, DD, Nat.reduceAdd, reduceIte, W_len, us_len, hd3 hjt, hij, hia]
      rw [load_us (o := o') (b := false) (by simp [Store.put]) hzz]
      simp only [SS, DD, Nat.reduceAdd, reduceIte, f3, f5, W_get ha, iaddrS_sl rfl (us_get hb), vload_ep, part_int, f1, f2, f4, f6]
      refine ⟨by simp [allApart], ?_⟩
      simp only [SS, Nat.reduceAdd, reduceIte, w32, hij, hia]
      rw [store_us (o := o') (by simp [Store.put]) (by rw [ho']; exact hija hjt)]
      simp only [SS, Nat.reduceAdd, reduceIte, shr32, hwj]
      refine ⟨(j + 1, _, o'.set (i + j) ((c + z + a * b) % B32), (c + z + a * b) / B32), ⟨(hs2 hjt).1, by simp [ho'], wd_set hwd' (Nat.mod_lt _ B32_pos), hc', ?_, ?_⟩, (hs2 hjt).2, Wk.forget (by simp [Fg, List.replicate]) (fun j => ?_) (Nat.le_refl _)⟩
      · rw [List.getElem?_set_ne (hne hjt)]; exact hz
      · show _ = val o + B32 ^ i * (a * val (ws.take (j + 1)))
        rw [val_take_succ hb]; exact hst
      · simp only [Store.put]; split <;> simp
    · have hjw := hje hjt
      have hia := iaddr_own (q := [6]) (t := false) (hina hlt)
      have f7 : IntKind.u32.wrap (c : Int) = (c : Int) := by rw [w32, Nat.mod_eq_of_lt hc]
      have hval : val (o'.set (i + ws.length) c) = val ((digits m).take (i + 1)) * val ws := by
        have e := val_set (x := c) hz
        have e2 : ws.take ws.length = ws := List.take_of_length_le (Nat.le_refl _)
        rw [hjw, e2, hv] at hv'
        rw [val_take_succ ha, Nat.add_mul]
        have e3 : B32 ^ i * a * val ws = B32 ^ i * (a * val ws) := Nat.mul_assoc _ _ _
        omega
      simp only [SS, Nat.reduceAdd, reduceIte, W_len, us_len, hd4 hjt, hin, f7, hia]
      rw [store_us (o := o') (by simp [Store.put]) (by rw [ho']; exact hina hlt)]
      simp only [SS, Nat.reduceAdd, reduceIte, hwi]
      refine ⟨(i + 1, _, o'.set (i + ws.length) c), ⟨(hs1 hlt).1, by simp [ho'], wd_set hwd' hc, hval⟩, (hs1 hlt).2, Wk.forget (by simp [Fg, List.replicate]) (fun j => ?_) (Nat.le_refl _)⟩
      simp only [Store.put]; split <;> simp
  · have hiw := hie hlt
    have e1 : (digits m).take (wlen m) = digits m := List.take_of_length_le (Nat.le_refl _)
    have hvo : val o = m * val ws := by rw [hv, hiw, e1, val_digits]
    have ht' := ht o hwd (by rw [ho]; omega)
    rw [hvo] at ht'
    simp only [SS, Nat.reduceAdd, reduceIte, W_len, us_len, hd2 hlt]
    refine vsCall_view [([6], ⟨us o, 1, false⟩)] ht' (ViewL.cons (view_us ho.symm) ViewL.nil) (by simp [Store.put]) ?_
    simp only [SS, Nat.reduceAdd, reduceIte]
    exact retQ_ret ▸ retQ_of_pure rfl (W_pure _)
theorem rtimes_ok {f ft : FuncId} (h : Has P f (w_setsquareref01_times ft)) (ht : TrimC P G ft) (m n : Nat) (hm : wlen m ≤ 1000000) (hn : wlen n ≤ 1000000) : VP P G f [W m, W n] (W (m * n)) := by
  have := rtimesR_ok (G := G) h ht m (digits_wd n) hm hn
  rw [val_digits] at this; exact this
theorem rby_ok {f ft : FuncId} (h : Has P f (w_setsquareref01_by ft)) (ht : TrimC P G ft) (m w : Nat) (hm : wlen m ≤ 1000000) (hw : w < B32) (hw0 : w ≠ 0) :
    VP P G f [W m, .int .u32 (w : Int)] (.tup [W (m / w), .int .u32 ((m % w : Nat) : Int)]) := by
  refine VP.has h ?_
  have hmk : ∀ p : Id, vmksl p 1 4 (.int .u32 0) (.int .i64 (wlen m : Int)) (.int .i64 (wlen m : Int)) = some { val := .osl p 1 0 (wlen m) false, up := [(p, some ⟨us (List.replicate (wlen m) 0), 1, false⟩)] } := fun p => mkz_us (by omega)
  have hwL : IntKind.i64.wrap ((wlen m : Int) - 1) = (wlen m : Int) - 1 := by rw [IntKind.wrap_i64]; omega
  have f0 := w64_word w hw
  have hwz : ((w : Nat) : Int) ≠ 0 := by omega
  simp only [w_setsquareref01_by, SS, Nat.reduceAdd, reduceIte, W_len, hmk, hwL, vwp_loop]
  refine VW.loopQ (α := Nat × Nat × List Nat × Nat) (fun x => ⟨[W m, .int .u32 (w : Int), .top, .top, .top, .top, .osl [4] 1 0 (wlen m) false, .int .u64 (x.2.2.2 : Int), .int .i64 ((x.1 : Int) - 1)] ++ List.replicate 34 .top,
    Store.put (fun _ => none) [4] (some ⟨us (zs x.1 ++ x.2.2.1), 1, false⟩), x.2.1⟩)
    (fun x => x.1 + x.2.2.1.length = wlen m ∧ Wd x.2.2.1 ∧ x.2.2.2 < w ∧ val ((digits m).drop x.1) = val x.2.2.1 * w + x.2.2.2) (fun x => x.1) (wlen m, 1000, [], 0) ?_ ?_ ?_
  · rw [List.append_nil]; exact Wk.slots (by simp [Fg, List.replicate]) (by simp only []; omega)
  · refine ⟨by simp, by intro w hw; simp at hw, Nat.pos_of_ne_zero hw0, ?_⟩
    show val ((digits m).drop (wlen m)) = _
    rw [List.drop_eq_nil_of_le (show (digits m).length ≤ wlen m from Nat.le_refl _)]; simp [val]
  rintro ⟨k, nn, q, r⟩ ⟨hk, hwd, hr, hv⟩
  simp only [] at hk hwd hr hv
  by_cases h0 : k = 0
  · subst h0
    have d0 : decide ((0 : Int) ≤ ((0 : Nat) : Int) - 1) = false := by decide
    have e : m / w = val q ∧ m % w = r := by
      rw [List.drop_zero, val_digits] at hv
      refine (Nat.div_mod_unique (Nat.pos_of_ne_zero hw0)).2 ⟨?_, hr⟩
      rw [hv, Nat.mul_comm w]; omega
    have ht' := ht q hwd (by omega)
    rw [← e.1] at ht'
    have f9 : IntKind.u32.wrap (r : Int) = (r : Int) := by rw [w32, Nat.mod_eq_of_lt (by omega)]
    have hq : wlen m = q.length := by omega
    simp only [SS, Nat.reduceAdd, reduceIte, d0, zs_zero, List.nil_append]
    refine vsCall_view [([4], ⟨us q, 1, false⟩)] ht' (ViewL.cons (view_us hq) ViewL.nil) (by simp [Store.put]) ?_
    simp only [SS, Nat.reduceAdd, reduceIte, f9]
    rw [e.2]
    exact retQ_ret ▸ retQ_of_pure rfl (PureAV.tup (by intro c hc; simp at hc; rcases hc with rfl | rfl; exact W_pure _; exact PureAV.int _ _))
  · obtain ⟨j, rfl⟩ : ∃ j, k = j + 1 := ⟨k - 1, by omega⟩
    have d0 : decide ((0 : Int) ≤ (j : Int)) = true := dec_true (by omega)
    have hj : ((j + 1 : Nat) : Int) - 1 = (j : Int) := by omega
    have hjl : j < wlen m := by omega
    have hwj : IntKind.i64.wrap ((j : Int) - 1) = (j : Int) - 1 := by rw [IntKind.wrap_i64]; omega
    obtain ⟨a, ha⟩ : ∃ a, (digits m)[j]? = some a := ⟨_, List.getElem?_eq_getElem hjl⟩
    have haw := digits_wd m a (List.mem_of_getElem? ha)
    have f1 := w64_word a haw
    have hrB : r < B32 := by omega
    have f2 := shl_hi r hrB
    have f3 := or_hi r a hrB haw
    have hlt : B32 * r + a < 18446744073709551616 := by unfold B32 at *; omega
    have f4 := quo64 (B32 * r + a) w hlt hw0
    have f5 := rem64 (B32 * r + a) w hw0
    have hqlt : (B32 * r + a) / w < B32 := by
      rw [Nat.div_lt_iff_lt_mul (Nat.pos_of_ne_zero hw0)]
      have : B32 * (r + 1) ≤ B32 * w := Nat.mul_le_mul_left _ hr
      rw [Nat.mul_add] at this
      omega
    have f6 : IntKind.u32.wrap (((B32 * r + a) / w : Nat) : Int) = (((B32 * r + a) / w : Nat) : Int) := by rw [w32, Nat.mod_eq_of_lt hqlt]
    have hia := iaddr_own (q := [4]) (t := false) hjl
    have hol : j < (zs (j + 1) ++ q).length := by simp [zs]; omega
    have hv' : val ((digits m).drop j) = val ((B32 * r + a) / w :: q) * w + (B32 * r + a) % w := by
      rw [List.drop_eq_getElem_cons (show j < (digits m).length from hjl)]
      obtain ⟨_, h2⟩ := List.getElem?_eq_some_iff.1 ha
      rw [h2]
      simp only [val]
      rw [hv, Nat.add_mul, Nat.mul_add, Nat.mul_assoc B32]
      have := Nat.div_add_mod (B32 * r + a) w
      rw [Nat.mul_comm] at this
      omega
    have hkl : j + ((B32 * r + a) / w :: q).length = wlen m := by simp; omega
    simp only [SS, Nat.reduceAdd, reduceIte, d0, hj, W_get ha, vload_ep, part_int, f0, f1, f2, f3, f4, f5, f6, hia]
    rw [store_us (o := zs (j + 1) ++ q) (by simp [Store.put]) hol, set_post]
    simp only [SS, Nat.reduceAdd, reduceIte, f0, f5, hwj]
    refine ⟨(j, _, (B32 * r + a) / w :: q, (B32 * r + a) % w), ⟨hkl, ?_, Nat.mod_lt _ (Nat.pos_of_ne_zero hw0), hv'⟩, Nat.lt_succ_self j, Wk.forget (by simp [Fg, List.replicate]) (fun j => ?_) (Nat.le_refl _)⟩
    · intro z hz
      rcases List.mem_cons.1 hz with rfl | hz
      · exact hqlt
      · exact hwd z hz
    · simp only [Store.put]; split <;> simp
end
end Go.VL
end

section
set_option linter.unusedSimpArgs false
namespace Go.VL
theorem blen_unique {x c : Nat} (hx : x < B32) (h0 : 0 < x) (h1 : x < 2 ^ c) (h2 : 2 ^ c ≤ 2 * x) : c = blen x := by
  obtain ⟨a, b⟩ := blen_law hx h0
  have e1 : 2 ^ c < 2 ^ (blen x + 1) := by rw [Nat.pow_succ]; omega
  have e2 : 2 ^ blen x < 2 ^ (c + 1) := by rw [Nat.pow_succ]; omega
  have := (Nat.pow_lt_pow_iff_right (by decide : 1 < 2)).1 e1
  have := (Nat.pow_lt_pow_iff_right (by decide : 1 < 2)).1 e2
  omega
theorem quo2 (a : Nat) (ha : a < B32) : vbinq .quo .int (.int .u32 (a : Int)) (.int .u32 2) = some (.int .u32 ((a / 2 : Nat) : Int)) := by
  rw [bin_quo (by decide)]
  show some (AV.int .u32 (IntKind.u32.wrap ((a / 2 : Nat) : Int))) = _
  rw [w32, Nat.mod_eq_of_lt (by unfold B32 at *; omega)]
theorem back_step {x y s : Nat} (hs : s ≤ 32) (hx : x < B32) : ((B32 * y + x) / 2 ^ s) % B32 = x / 2 ^ s + 2 ^ (32 - s) * (y % 2 ^ s) := by
  have hB := two_split hs
  have hd : x / 2 ^ s < 2 ^ (32 - s) := by rw [Nat.div_lt_iff_lt_mul (Nat.two_pow_pos _), hB]; exact hx
  have e1 : (B32 * y + x) / 2 ^ s = 2 ^ (32 - s) * y + x / 2 ^ s := by
    rw [← hB, Nat.mul_comm (2 ^ (32 - s)), Nat.mul_assoc, Nat.mul_add_div (Nat.two_pow_pos _)]
  have hlt : y % 2 ^ s < 2 ^ s := Nat.mod_lt _ (Nat.two_pow_pos _)
  have h1 : 2 ^ (32 - s) * (y % 2 ^ s + 1) ≤ 2 ^ (32 - s) * 2 ^ s := Nat.mul_le_mul_left _ hlt
  rw [Nat.mul_add, hB] at h1
  have e2 : 2 ^ (32 - s) * y = B32 * (y / 2 ^ s) + 2 ^ (32 - s) * (y % 2 ^ s) := by
    have := Nat.div_add_mod y (2 ^ s)
    conv => lhs; rw [← this]
    rw [Nat.mul_add, ← Nat.mul_assoc, hB]
  rw [e1, e2, show B32 * (y / 2 ^ s) + 2 ^ (32 - s) * (y % 2 ^ s) + x / 2 ^ s = (x / 2 ^ s + 2 ^ (32 - s) * (y % 2 ^ s)) + B32 * (y / 2 ^ s) from by omega, Nat.add_mul_mod_self_left, Nat.mod_eq_of_lt (by omega)]
theorem or_lo (x y : Nat) (hx : x < B32) (hy : y < B32) : vbinq .or .int (.int .u64 (x : Int)) (.int .u64 ((B32 * y : Nat) : Int)) = some (.int .u64 ((B32 * y + x : Nat) : Int)) := by
  rw [or64 _ _ (by unfold B32 at *; omega) (by unfold B32 at *; omega), Nat.or_comm]
  have := Nat.two_pow_add_eq_or_of_lt (i := 32) (b := x) (by unfold B32 at hx; omega) y
  rw [show B32 = 2 ^ 32 from rfl, this]
theorem shru64 (x s : Nat) (hs : s ≤ 64) : vbinq .shr .int (.int .u64 (x : Int)) (.int .i64 (s : Int)) = some (.int .u64 ((x / 2 ^ s : Nat) : Int)) := by
  rw [bin_shr (by omega)]
  have h2 : min (s : Int).toNat IntKind.u64.bits = s := by
    show min (s : Int).toNat 64 = s
    rw [Int.toNat_natCast]; omega
  have h3 : (x : Int).fdiv (2 ^ s) = ((x / 2 ^ s : Nat) : Int) := by
    have h4 : (2 : Int) ^ s = ((2 ^ s : Nat) : Int) := by rw [Int.natCast_pow]; rfl
    rw [h4, Int.fdiv_eq_ediv_of_nonneg _ (Int.natCast_nonneg _)]
    exact (Int.natCast_ediv _ _).symm
  rw [h2, h3]
section
variable {P : Program} {G : Nat → Option (List AV)}
theorem rlength_ok {f : FuncId} (h : Has P f w_setsquareref01_length) {n x k : Nat} (hk : wlen n = k + 1) (hx : (digits n)[k]? = some x) (hkl : k ≤ 1000000) : VP P G f [W n] (.int .i64 ((32 * k + blen x : Nat) : Int)) := by
  refine VP.has h ?_
  have hxB := digits_wd n x (List.mem_of_getElem? hx)
  obtain ⟨hx0, _, _, _, _⟩ := norm_law hk hx
  have d0 : decide (((k + 1 : Nat) : Int) = 0) = false := dec_false (by omega)
  have p1 : IntKind.i64.wrap (((k + 1 : Nat) : Int) - 1) = (k : Int) := by rw [IntKind.wrap_i64]; omega
  simp only [w_setsquareref01_length, SS, Nat.reduceAdd, reduceIte, W_len, hk, d0, p1, W_get hx, vload_ep, part_int, vwp_loop]
  refine VW.loopQ (α := Nat × Nat × Nat) (fun y => ⟨[W n, .top, .top, .int .i64 (y.1 : Int), .int .u32 (y.2.1 : Int)] ++ List.replicate 21 .top, fun _ => none, y.2.2⟩)
    (fun y => y.2.1 = x / 2 ^ y.1 ∧ y.1 ≤ 32 ∧ 2 ^ y.1 ≤ 2 * x) (fun y => y.2.1) (0, x, 1000) ?_ ?_ ?_
  · exact Wk.slots (by simp [Fg, List.replicate]) (by simp only []; omega)
  · refine ⟨by simp, by simp, by simp; omega⟩
  rintro ⟨c, y, nn⟩ ⟨hy, hc, h2⟩
  simp only [] at hy hc h2
  have hyB : y < B32 := by rw [hy]; exact Nat.lt_of_le_of_lt (Nat.div_le_self _ _) hxB
  by_cases h0 : y = 0
  · have d1 : decide ((0 : Int) < (y : Int)) = false := dec_false (by omega)
    have h1 : x < 2 ^ c := by
      rw [h0] at hy
      exact Nat.lt_of_div_eq_zero (Nat.two_pow_pos c) hy.symm
    have e := blen_unique hxB hx0 h1 h2
    have m1 : IntKind.i64.wrap (32 * (k : Int)) = ((32 * k : Nat) : Int) := by rw [IntKind.wrap_i64]; omega
    have a1 := add_i64 (32 * k) c (by omega)
    rw [← e]
    simp only [SS, Nat.reduceAdd, reduceIte, d1, W_len, hk, p1, m1, a1]
    exact retQ_ret ▸ retQ_of_pure rfl (PureAV.int _ _)
  · have d1 : decide ((0 : Int) < (y : Int)) = true := dec_true (by omega)
    have hcw := wrap_succ_i64 c (by omega)
    have q2 := quo2 y hyB
    have hlt : 2 ^ c ≤ x := by
      rcases Nat.lt_or_ge x (2 ^ c) with h | h
      · rw [Nat.div_eq_of_lt h] at hy; omega
      · exact h
    have hc2 : c + 1 ≤ 32 := by
      have : 2 ^ c < 2 ^ 32 := by unfold B32 at hxB; omega
      have := (Nat.pow_lt_pow_iff_right (by decide : 1 < 2)).1 this
      omega
    simp only [SS, Nat.reduceAdd, reduceIte, d1, hcw, q2]
    refine ⟨(c + 1, y / 2, _), ⟨?_, hc2, ?_⟩, Nat.div_lt_self (by omega) (by decide), Wk.slots (by simp [Fg, List.replicate]) (Nat.le_refl _)⟩
    · simp only []; rw [hy, Nat.div_div_eq_div_mul, ← Nat.pow_succ]
    · simp only []; rw [Nat.pow_succ]; omega
theorem shifted_ok {f : FuncId} (h : Has P f w_setsquareref01_shifted) (m s : Nat) (hm : wlen m ≤ 1000000) (hs : s ≤ 31) (p : Id) :
    CallRel P G f [W m, .int .i64 (s : Int)] p [] { val := .osl (4 :: p) 1 0 (wlen m + 1) false, rd := [], up := [(4 :: p, some ⟨us (pad (wlen m + 1) (m * 2 ^ s)), 1, false⟩)] } := by
  refine CallRel.has h ?_
  have hL := wrap_succ_i64 (wlen m) (by omega)
  have hmk : ∀ p : Id, vmksl p 1 4 (.int .u32 0) (.int .i64 ((wlen m + 1 : Nat) : Int)) (.int .i64 ((wlen m + 1 : Nat) : Int)) = some { val := .osl p 1 0 (wlen m + 1) false, up := [(p, some ⟨us (List.replicate (wlen m + 1) 0), 1, false⟩)] } := fun p => mkz_us (by omega)
  have hz : us (List.replicate (wlen m + 1) 0) = us (0 :: zs (wlen m)) := rfl
  simp only [w_setsquareref01_shifted, SS, Nat.reduceAdd, reduceIte, W_len, hL, hmk, hz, vwp_loop]
  refine VW.loopQ (α := Nat × Nat × List Nat × Nat) (fun x => ⟨[W m, .int .i64 (s : Int), .top, .top, .top, .osl (4 :: p) 1 0 (wlen m + 1) false, .int .i64 (x.1 : Int)] ++ List.replicate 36 .top,
    Store.put (Store.of []) (4 :: p) (some ⟨us (x.2.2.1 ++ x.2.2.2 :: zs (wlen m - x.1)), 1, false⟩), x.2.1⟩)
    (fun x => x.1 ≤ wlen m ∧ x.2.2.1.length = x.1 ∧ Wd x.2.2.1 ∧ x.2.2.2 < 2 ^ s ∧ val x.2.2.1 + B32 ^ x.1 * x.2.2.2 = val ((digits m).take x.1) * 2 ^ s) (fun x => wlen m - x.1) (0, 1000, [], 0) ?_ ?_ ?_
  · exact Wk.slots (by simp [Fg, List.replicate]) (by simp only []; omega)
  · exact ⟨Nat.zero_le _, rfl, by intro w hw; simp at hw, Nat.two_pow_pos _, by simp [val]⟩
  rintro ⟨i, nn, o, c⟩ ⟨hi, ho, hwd, hc, hv⟩
  simp only [] at hi ho hwd hc hv
  have hd1 : i < wlen m → decide ((i : Int) < (wlen m : Int)) = true := fun h => dec_true (by omega)
  have hd2 : ¬ i < wlen m → decide ((i : Int) < (wlen m : Int)) = false := fun h => dec_false (by omega)
  have hie : ¬ i < wlen m → i = wlen m := by omega
  have hwi := wrap_succ_i64 i (by omega)
  have hs1 : i < wlen m → i + 1 ≤ wlen m ∧ wlen m - (i + 1) < wlen m - i := fun h => by omega
  have hcB : c < B32 := by
    have h2 : 2 ^ s ≤ 2 ^ 32 := Nat.pow_le_pow_right (by decide) (by omega)
    unfold B32; omega
  by_cases hlt : i < wlen m
  · obtain ⟨x, hx⟩ : ∃ x, (digits m)[i]? = some x := ⟨_, List.getElem?_eq_getElem hlt⟩
    have hxw := digits_wd m x (List.mem_of_getElem? hx)
    have f1 := w64_word x hxw
    have f2 := shl64 x s (by omega) hxw
    obtain ⟨g1, g2, g3⟩ := shl_step (s := s) (by omega) hc hxw
    have f3 := or32 c (x * 2 ^ s % B32) hcB (Nat.mod_lt _ B32_pos)
    rw [g1] at f3
    have g4 : x * 2 ^ s / B32 < B32 := by
      have h2 : 2 ^ s ≤ 2 ^ 32 := Nat.pow_le_pow_right (by decide) (by omega)
      have : (2 : Nat) ^ 32 = B32 := rfl
      omega
    have f4 : IntKind.u32.wrap ((x * 2 ^ s / B32 : Nat) : Int) = ((x * 2 ^ s / B32 : Nat) : Int) := by rw [w32, Nat.mod_eq_of_lt g4]
    have hia := iaddr_own (q := 4 :: p) (t := false) (show i < wlen m + 1 by omega)
    have hia1 := iaddr_own (q := 4 :: p) (t := false) (show i + 1 < wlen m + 1 by omega)
    obtain ⟨k, hk⟩ : ∃ k, wlen m - i = k + 1 := ⟨wlen m - i - 1, by omega⟩
    have hk1 : wlen m - (i + 1) = k := by omega
    have hl1 : i < (o ++ c :: 0 :: zs k).length := by simp; omega
    have hl2 : i + 1 < (o ++ (c + x * 2 ^ s % B32) :: 0 :: zs k).length := by simp; omega
    have hv' : val (o ++ [c + x * 2 ^ s % B32]) + B32 ^ (i + 1) * (x * 2 ^ s / B32) = val ((digits m).take (i + 1)) * 2 ^ s := by
      rw [val_take_succ hx, val_append, ho, Nat.add_mul, ← hv]
      simp only [val, Nat.mul_zero, Nat.add_zero, Nat.pow_succ]
      have e2 : B32 ^ i * (x * 2 ^ s % B32) + B32 ^ i * (B32 * (x * 2 ^ s / B32)) = B32 ^ i * (x * 2 ^ s) := by rw [← Nat.mul_add, Nat.mod_add_div]
      rw [Nat.mul_assoc, Nat.mul_assoc, Nat.mul_add]
      omega
    simp only [SS, Nat.reduceAdd, reduceIte, W_len, hd1 hlt, W_get hx, vload_ep, part_int, f1, f2, hia, hk, zs_succ]
    rw [load_us (o := o ++ c :: 0 :: zs k) (b := false) (by simp [Store.put]) (get_mid _ _ _ ho)]
    simp only [SS, Nat.reduceAdd, reduceIte, w32, f3, hia]
    rw [store_us (o := o ++ c :: 0 :: zs k) (by simp [Store.put]) hl1, set_mid _ _ _ _ ho]
    simp only [SS, Nat.reduceAdd, reduceIte, hwi, shr32, f4, hia1]
    rw [store_us (o := o ++ (c + x * 2 ^ s % B32) :: 0 :: zs k) (by simp [Store.put]) hl2, set_mid1 _ _ _ _ _ ho]
    simp only [SS, Nat.reduceAdd, reduceIte, hwi]
    refine ⟨(i + 1, _, o ++ [c + x * 2 ^ s % B32], x * 2 ^ s / B32), ⟨(hs1 hlt).1, by simp [ho], wd_append hwd (by intro z hz; simp at hz; subst hz; exact g2), g3, hv'⟩, (hs1 hlt).2, Wk.forget (by simp [Fg, List.replicate]) (fun j => ?_) (Nat.le_refl _)⟩
    simp only [Store.put, hk1]; split <;> simp
  · have hiw := hie hlt
    have e1 : (digits m).take (wlen m) = digits m := List.take_of_length_le (Nat.le_refl _)
    have hvo : val (o ++ [c]) = m * 2 ^ s := by
      rw [val_append, ho]; simp only [val, Nat.mul_zero, Nat.add_zero]
      rw [hv, hiw, e1, val_digits]
    have hlen : (o ++ [c]).length = wlen m + 1 := by simp [ho, hiw]
    have e : pad (wlen m + 1) (m * 2 ^ s) = o ++ [c] := by
      rw [← hvo, ← hlen]
      exact pad_of (wd_append hwd (by intro z hz; simp at hz; subst hz; exact hcB))
    have e3 : zs (wlen m - i) = [] := by rw [hiw, Nat.sub_self]; rfl
    simp only [SS, Nat.reduceAdd, reduceIte, W_len, hd2 hlt, e, e3]
    refine endQ_ret ▸ endQ_of_same rfl fun i => .inr ?_
    rfl
theorem back_ok {f ft : FuncId} (h : Has P f (w_setsquareref01_back ft)) (ht : TrimC P G ft) (m s : Nat) (hm : wlen m ≤ 1000000) (hs : s ≤ 31) :
    VP P G f [W m, .int .i64 (s : Int)] (W (m / 2 ^ s)) := by
  refine VP.has h ?_
  have hmk : ∀ p : Id, vmksl p 1 4 (.int .u32 0) (.int .i64 (wlen m : Int)) (.int .i64 (wlen m : Int)) = some { val := .osl p 1 0 (wlen m) false, up := [(p, some ⟨us (List.replicate (wlen m) 0), 1, false⟩)] } := fun p => mkz_us (by omega)
  have hz : us (List.replicate (wlen m) 0) = us ([] ++ zs (wlen m - 0)) := rfl
  have h2s : 2 ^ s * 2 ^ (32 - s) = B32 := by rw [Nat.mul_comm]; exact two_split (by omega)
  simp only [w_setsquareref01_back, SS, Nat.reduceAdd, reduceIte, W_len, hmk, hz, vwp_loop]
  refine VW.loopQ (α := Nat × Nat × List Nat) (fun x => ⟨[W m, .int .i64 (s : Int), .top, .top, .top, .osl [3] 1 0 (wlen m) false, .int .i64 (x.1 : Int)] ++ List.replicate 38 .top,
    Store.put (fun _ => none) [3] (some ⟨us (x.2.2 ++ zs (wlen m - x.1)), 1, false⟩), x.2.1⟩)
    (fun x => x.1 ≤ wlen m ∧ x.2.2.length = x.1 ∧ Wd x.2.2 ∧ 2 ^ s * val x.2.2 + m % 2 ^ s = val ((digits m).take x.1) + B32 ^ x.1 * (((digits m)[x.1]?).getD 0 % 2 ^ s)) (fun x => wlen m - x.1) (0, 1000, []) ?_ ?_ ?_
  · exact Wk.slots (by simp [Fg, List.replicate]) (by simp only []; omega)
  · refine ⟨Nat.zero_le _, rfl, by intro w hw; simp at hw, ?_⟩
    show 2 ^ s * val [] + m % 2 ^ s = val ((digits m).take 0) + B32 ^ 0 * (((digits m)[0]?).getD 0 % 2 ^ s)
    rw [get_zero_digit, ← h2s, Nat.mod_mul_right_mod]
    simp [val]
  rintro ⟨i, nn, o⟩ ⟨hi, ho, hwd, hv⟩
  simp only [] at hi ho hwd hv
  have hd1 : i < wlen m → decide ((i : Int) < (wlen m : Int)) = true := fun h => dec_true (by omega)
  have hd2 : ¬ i < wlen m → decide ((i : Int) < (wlen m : Int)) = false := fun h => dec_false (by omega)
  have hd3 : i + 1 < wlen m → decide (((i + 1 : Nat) : Int) < (wlen m : Int)) = true := fun h => dec_true (by omega)
  have hd4 : ¬ i + 1 < wlen m → decide (((i + 1 : Nat) : Int) < (wlen m : Int)) = false := fun h => dec_false (by omega)
  have hie : ¬ i < wlen m → i = wlen m := by omega
  have hie1 : i < wlen m → ¬ i + 1 < wlen m → i + 1 = wlen m := by omega
  have hwi := wrap_succ_i64 i (by omega)
  have hs1 : i < wlen m → i + 1 ≤ wlen m ∧ wlen m - (i + 1) < wlen m - i := fun h => by omega
  by_cases hlt : i < wlen m
  · obtain ⟨x, hx⟩ : ∃ x, (digits m)[i]? = some x := ⟨_, List.getElem?_eq_getElem hlt⟩
    have hxw := digits_wd m x (List.mem_of_getElem? hx)
    have f0 := w64_word x hxw
    have hia := iaddr_own (q := [3]) (t := false) hlt
    obtain ⟨k, hk⟩ : ∃ k, wlen m - i = k + 1 := ⟨wlen m - i - 1, by omega⟩
    have hk1 : wlen m - (i + 1) = k := by omega
    have hl1 : i < (o ++ 0 :: zs k).length := by simp; omega
    have hstep : ∀ y w, w = x / 2 ^ s + 2 ^ (32 - s) * (y % 2 ^ s) → 2 ^ s * w + x % 2 ^ s = x + B32 * (y % 2 ^ s) → ((digits m)[i + 1]?).getD 0 = y →
        2 ^ s * val (o ++ [w]) + m % 2 ^ s = val ((digits m).take (i + 1)) + B32 ^ (i + 1) * (((digits m)[i + 1]?).getD 0 % 2 ^ s) := by
      intro y w _ hw hy
      rw [hx, Option.getD_some] at hv
      rw [val_take_succ hx, val_append, ho, hy]
      simp only [val, Nat.mul_zero, Nat.add_zero, Nat.pow_succ]
      have e1 : B32 ^ i * (2 ^ s * w) + B32 ^ i * (x % 2 ^ s) = B32 ^ i * x + B32 ^ i * (B32 * (y % 2 ^ s)) := by rw [← Nat.mul_add, hw, Nat.mul_add]
      have e2 : 2 ^ s * (val o + B32 ^ i * w) = 2 ^ s * val o + B32 ^ i * (2 ^ s * w) := by rw [Nat.mul_add, Nat.mul_left_comm]
      rw [e2, Nat.mul_assoc]
      omega
    by_cases hn : i + 1 < wlen m
    · obtain ⟨y, hy⟩ : ∃ y, (digits m)[i + 1]? = some y := ⟨_, List.getElem?_eq_getElem hn⟩
      have hyw := digits_wd m y (List.mem_of_getElem? hy)
      have f1 := w64_word y hyw
      have f2 := shl_hi y hyw
      have f3 := or_lo x y hxw hyw
      have f4 := shru64 (B32 * y + x) s (by omega)
      obtain ⟨g1, g2, g3⟩ := shr_step (y := y) (s := s) (by omega) hxw
      have f5 : IntKind.u32.wrap (((B32 * y + x) / 2 ^ s : Nat) : Int) = ((x / 2 ^ s + 2 ^ (32 - s) * (y % 2 ^ s) : Nat) : Int) := by rw [w32, back_step (by omega) hxw]
      have hv' := hstep y _ rfl g3 (by rw [hy]; rfl)
      simp only [SS, Nat.reduceAdd, reduceIte, W_len, hd1 hlt, W_get hx, vload_ep, part_int, f0, hwi, hd3 hn, W_get hy, f1, f2, f3, f4, f5, hia, hk, zs_succ]
      rw [store_us (o := o ++ 0 :: zs k) (by simp [Store.put]) hl1, set_mid _ _ _ _ ho]
      simp only [SS, Nat.reduceAdd, reduceIte, hwi]
      refine ⟨(i + 1, _, o ++ [x / 2 ^ s + 2 ^ (32 - s) * (y % 2 ^ s)]), ⟨(hs1 hlt).1, by simp [ho], wd_append hwd (by intro z hz; simp at hz; subst hz; exact g2), hv'⟩, (hs1 hlt).2, Wk.forget (by simp [Fg, List.replicate]) (fun j => ?_) (Nat.le_refl _)⟩
      simp only [Store.put, hk1]; split <;> simp
    · have hnone : (digits m)[i + 1]? = none := List.getElem?_eq_none (by have := hie1 hlt hn; show wlen m ≤ i + 1; omega)
      obtain ⟨g1, g2, g3⟩ := shr_step (y := 0) (s := s) (by omega) hxw
      have e0 : x / 2 ^ s + 2 ^ (32 - s) * (0 % 2 ^ s) = x / 2 ^ s := by simp
      rw [e0] at g2 g3
      have f4 := shru64 x s (by omega)
      have f5 : IntKind.u32.wrap ((x / 2 ^ s : Nat) : Int) = ((x / 2 ^ s : Nat) : Int) := by rw [w32, Nat.mod_eq_of_lt g2]
      have hv' := hstep 0 (x / 2 ^ s) e0.symm g3 (by rw [hnone]; rfl)
      simp only [SS, Nat.reduceAdd, reduceIte, W_len, hd1 hlt, W_get hx, vload_ep, part_int, f0, hwi, hd4 hn, f4, f5, hia, hk, zs_succ]
      rw [store_us (o := o ++ 0 :: zs k) (by simp [Store.put]) hl1, set_mid _ _ _ _ ho]
      simp only [SS, Nat.reduceAdd, reduceIte, hwi]
      refine ⟨(i + 1, _, o ++ [x / 2 ^ s]), ⟨(hs1 hlt).1, by simp [ho], wd_append hwd (by intro z hz; simp at hz; subst hz; exact g2), hv'⟩, (hs1 hlt).2, Wk.forget (by simp [Fg, List.replicate]) (fun j => ?_) (Nat.le_refl _)⟩
      simp only [Store.put, hk1]; split <;> simp
  · have hiw := hie hlt
    have e1 : (digits m).take (wlen m) = digits m := List.take_of_length_le (Nat.le_refl _)
    have hnone : (digits m)[wlen m]? = none := List.getElem?_eq_none (Nat.le_refl _)
    have hvo : val o = m / 2 ^ s := by
      rw [hiw, e1, val_digits, hnone] at hv
      have h1 := Nat.div_add_mod m (2 ^ s)
      have h2 : 2 ^ s * val o = 2 ^ s * (m / 2 ^ s) := by
        simp at hv; omega
      exact Nat.eq_of_mul_eq_mul_left (Nat.two_pow_pos _) h2
    have hlen : wlen m = o.length := by rw [ho, hiw]
    have ht' := ht o hwd (by omega)
    rw [hvo] at ht'
    have e3 : zs (wlen m - i) = [] := by rw [hiw, Nat.sub_self]; rfl
    simp only [SS, Nat.reduceAdd, reduceIte, W_len, hd2 hlt, e3, List.append_nil]
    refine vsCall_view [([3], ⟨us o, 1, false⟩)] ht' (ViewL.cons (view_us hlen) ViewL.nil) (by simp [Store.put]) ?_
    simp only [SS, Nat.reduceAdd, reduceIte]
    exact retQ_ret ▸ retQ_of_pure rfl (W_pure _)
end
end Go.VL
end

section
set_option linter.unusedSimpArgs false
namespace Go.VL
theorem trimmed (b : List Nat) (h : Wd b) : ∃ z, b = digits (val b) ++ zs z := by
  induction hn : b.length generalizing b with
  | zero =>
    obtain rfl : b = [] := List.length_eq_zero_iff.1 hn
    exact ⟨0, by simp [val, digits_zero, zs]⟩
  | succ k ih =>
    obtain ⟨b', w, rfl, hl⟩ := split_last hn
    by_cases hw : w = 0
    · subst hw
      obtain ⟨z, hz⟩ := ih b' (fun w hw => h w (by simp [hw])) hl
      refine ⟨z + 1, ?_⟩
      rw [val_snoc_zero]
      conv => lhs; rw [hz]
      rw [List.append_assoc]; congr 1
      simp [zs, List.replicate_succ']
    · exact ⟨0, by rw [digits_val h (.inr ⟨w, by simp, hw⟩)]; simp [zs]⟩
theorem slice_off {id : Id} {k off len h : Nat} (h2 : h ≤ len) : vslice k (.osl id k off len false) none (some (.int .i64 (h : Int))) none = some (.osl id k off h false) := by
  simp [vslice, vbounds, vbound, h2]
theorem view_us_mid {id : Id} {a b t : List Nat} {f tt : Bool} {n : Nat} (hn : n = b.length) : View (Store.of [(id, ⟨us (a ++ b ++ t), 1, f⟩)]) (.osl id 1 a.length n tt) (.sl 1 (us b)) := by
  subst hn
  refine View.osl (bk := ⟨us (a ++ b ++ t), 1, f⟩) (by simp [Store.of]) rfl (by simp [us_len]) ?_ (by rw [us_len]) (us_size b)
  have : ((us (a ++ b ++ t)).drop a.length).take b.length = us b := by rw [List.append_assoc, us_append, us_append, ← us_len a, List.drop_left, ← us_len b, List.take_left]
  show ViewL _ (flat (((us (a ++ b ++ t)).drop a.length).take b.length)) _
  rw [this]
  exact ViewL.pure (us_pures b)
section
variable {P : Program} {G : Nat → Option (List AV)}
theorem trimO_ok {f : FuncId} (h : Has P f w_integer_trim) {id : Id} {a b t : List Nat} (hw : Wd b) (hl : b.length ≤ 9223372036854775807) (p : Id) :
    CallRel P G f [.osl id 1 a.length b.length false] p [(id, ⟨us (a ++ b ++ t), 1, false⟩)] { val := .osl id 1 a.length (wlen (val b)) false, rd := [id], up := [] } := by
  refine CallRel.has h ?_
  simp only [w_integer_trim, SS, Nat.reduceAdd, reduceIte, vwp_loop]
  refine VW.loopQ (α := Nat × Nat) (fun x => ⟨[.osl id 1 a.length x.1 false] ++ List.replicate 20 .top, Store.of [(id, ⟨us (a ++ b ++ t), 1, false⟩)], x.2⟩) (fun x => x.1 ≤ b.length ∧ val (b.take x.1) = val b) (fun x => x.1) (b.length, 1) ?_ ⟨Nat.le_refl _, by rw [List.take_length]⟩ ?_
  · exact Wk.slots (by simp [Fg, List.replicate]) (Nat.le_refl _)
  rintro ⟨k, n⟩ ⟨hk, hv⟩
  simp only [] at hk hv
  by_cases h0 : k = 0
  · subst h0
    have d0 : decide ((0 : Int) < ((0 : Nat) : Int)) = false := by decide
    have e : wlen (val b) = 0 := by rw [← hv]; simp [val, wlen, digits_zero]
    simp only [SS, Nat.reduceAdd, reduceIte, d0, e]
    exact endQ_ret ▸ endQ_of_same rfl fun i => .inr rfl
  · have hpos : 0 < k := Nat.pos_of_ne_zero h0
    have d0 : decide ((0 : Int) < (k : Int)) = true := dec_true (by omega)
    have hw1 := wrap_pred_i64 k hpos (by omega)
    obtain ⟨w, hwk⟩ : ∃ w, b[k - 1]? = some w := ⟨b[k - 1], by rw [List.getElem?_eq_getElem]⟩
    have htk : b.take k = b.take (k - 1) ++ [w] := by
      have := List.take_add_one (l := b) (i := k - 1)
      rw [hwk, show k - 1 + 1 = k from by omega] at this
      simpa using this
    have hia := iaddr_off (q := id) (off := a.length) (t := false) (show k - 1 < k by omega)
    have hld := load_us (σ := Store.of [(id, ⟨us (a ++ b ++ t), 1, false⟩)]) (q := id) (b := false) (by simp [Store.of]) (get_blk (t := t) (rfl : a.length = a.length) hwk)
    have hslc := slice_off (id := id) (k := 1) (off := a.length) (len := k) (h := k - 1) (Nat.sub_le _ _)
    by_cases hz : w = 0
    · have d1 : decide ((w : Int) = 0) = true := dec_true (by omega)
      simp only [SS, Nat.reduceAdd, reduceIte, d0, hw1, hia, hld, d1, hslc]
      refine ⟨(k - 1, _), ⟨by simp only []; omega, ?_⟩, by simp only []; omega, Wk.slots (by simp [Fg, List.replicate]) (Nat.le_refl _)⟩
      simp only []
      rw [← hv, htk, hz, val_snoc_zero]
    · have d1 : decide ((w : Int) = 0) = false := dec_false (by omega)
      have e : wlen (val b) = k := by
        have e1 : digits (val b) = b.take k := by
          rw [← hv]
          exact digits_val (wd_take hw k) (.inr ⟨w, by rw [htk]; simp, hz⟩)
        rw [wlen, e1, List.length_take]; omega
      simp only [SS, Nat.reduceAdd, reduceIte, d0, hw1, hia, hld, d1, e]
      exact endQ_ret ▸ endQ_of_same rfl fun i => .inr rfl
set_option maxHeartbeats 1000000 in
theorem minusO_ok {f ft : FuncId} (h : Has P f (w_setsquareref01_minus ft)) (ht : TrimC P G ft) {id : Id} {a t : List Nat} (m n : Nat) (hnm : n ≤ m) (hm : wlen m ≤ 1000000) (p : Id) (hid : ∀ x, id ≠ x :: p) :
    CallRel P G f [.osl id 1 a.length (wlen m) false, W n] p [(id, ⟨us (a ++ digits m ++ t), 1, false⟩)] { val := W (m - n), rd := [id], up := [] } := by
  refine CallRel.has h ?_
  have hwn := wlen_mono hnm
  have hidn := hid 3
  have hmk : ∀ p : Id, vmksl p 1 4 (.int .u32 0) (.int .i64 (wlen m : Int)) (.int .i64 (wlen m : Int)) = some { val := .osl p 1 0 (wlen m) false, up := [(p, some ⟨us (List.replicate (wlen m) 0), 1, false⟩)] } := fun p => mkz_us (by omega)
  simp only [w_setsquareref01_minus, SS, Nat.reduceAdd, reduceIte, W_len, hmk, vwp_loop]
  refine VW.loopQ (α := Nat × Nat × List Nat × Nat) (fun x => ⟨[.osl id 1 a.length (wlen m) false, W n, .top, .top, .top, .osl (3 :: p) 1 0 (wlen m) false, .int .u64 (x.2.2.2 : Int), .int .i64 (x.1 : Int)] ++ List.replicate 40 .top,
    Store.put (Store.of [(id, ⟨us (a ++ digits m ++ t), 1, false⟩)]) (3 :: p) (some ⟨us (x.2.2.1 ++ zs (wlen m - x.1)), 1, false⟩), x.2.1⟩)
    (fun x => x.1 ≤ wlen m ∧ x.2.2.1.length = x.1 ∧ Wd x.2.2.1 ∧ x.2.2.2 ≤ 1 ∧ val x.2.2.1 + val ((digits n).take x.1) = val ((digits m).take x.1) + B32 ^ x.1 * x.2.2.2) (fun x => wlen m - x.1) (0, 1000, [], 0) ?_ ?_ ?_
  · exact Wk.slots (by simp [Fg, List.replicate]) (by simp only []; omega)
  · exact ⟨Nat.zero_le _, rfl, by intro w hw; simp at hw, Nat.zero_le _, by simp [val]⟩
  rintro ⟨i, nn, o, c⟩ ⟨hi, ho, hwd, hc, hv⟩
  simp only [] at hi ho hwd hc hv
  have hd1 : i < wlen m → decide ((i : Int) < (wlen m : Int)) = true := fun h => dec_true (by omega)
  have hd2 : ¬ i < wlen m → decide ((i : Int) < (wlen m : Int)) = false := fun h => dec_false (by omega)
  have hd3 : i < wlen n → decide ((i : Int) < (wlen n : Int)) = true := fun h => dec_true (by omega)
  have hd4 : ¬ i < wlen n → decide ((i : Int) < (wlen n : Int)) = false := fun h => dec_false (by omega)
  have hie : ¬ i < wlen m → i = wlen m := by omega
  have hwi := wrap_succ_i64 i (by omega)
  have hs1 : i < wlen m → i + 1 ≤ wlen m ∧ wlen m - (i + 1) < wlen m - i := fun h => by omega
  by_cases hlt : i < wlen m
  · obtain ⟨x, hx⟩ : ∃ x, (digits m)[i]? = some x := ⟨_, List.getElem?_eq_getElem hlt⟩
    have hxw := digits_wd m x (List.mem_of_getElem? hx)
    have f1 := w64_word x hxw
    have hia := iaddr_own (q := 3 :: p) (t := false) hlt
    have hio := iaddr_off (q := id) (off := a.length) (t := false) hlt
    obtain ⟨k, hk⟩ : ∃ k, wlen m - i = k + 1 := ⟨wlen m - i - 1, by omega⟩
    have hk1 : wlen m - (i + 1) = k := by omega
    have hl1 : i < (o ++ 0 :: zs k).length := by simp; omega
    have hld := load_us (σ := Store.put (Store.of [(id, ⟨us (a ++ digits m ++ t), 1, false⟩)]) (3 :: p) (some ⟨us (o ++ 0 :: zs k), 1, false⟩)) (q := id) (b := false) (by simp [Store.of, Store.put, hidn]) (get_blk (t := t) (rfl : a.length = a.length) hx)
    by_cases hb : i < wlen n
    · obtain ⟨y, hy⟩ : ∃ y, (digits n)[i]? = some y := ⟨_, List.getElem?_eq_getElem hb⟩
      have hyw := digits_wd n y (List.mem_of_getElem? hy)
      have f3 := w64_word y hyw
      obtain ⟨w, c', h1, h2, h3, d, h4, h5, h6⟩ := sub_step3 hxw hyw hc
      have hst := diff_step (va := val ((digits m).take i)) (vb := val ((digits n).take i)) (x := x) (y := y) (c := c) (w := w) (c' := c') ho (by rw [hv]; omega) h3
      simp only [SS, Nat.reduceAdd, reduceIte, W_len, hd1 hlt, hk, zs_succ, hio, hld, part_int, f1, hd3 hb, W_get hy, vload_ep, f3, h4, h5, hia]
      rw [store_us (o := o ++ 0 :: zs k) (by simp [Store.put]) hl1, set_mid _ _ _ _ ho]
      simp only [SS, Nat.reduceAdd, reduceIte, shr32, h6, hwi]
      refine ⟨(i + 1, _, o ++ [w], c'), ⟨(hs1 hlt).1, by simp [ho], wd_append hwd (by intro z hz; simp at hz; subst hz; exact h1), h2, ?_⟩, (hs1 hlt).2, Wk.forget (by simp [Fg, List.replicate]) (fun j => ?_) (Nat.le_refl _)⟩
      · show val (o ++ [w]) + val ((digits n).take (i + 1)) = val ((digits m).take (i + 1)) + _
        rw [val_take_succ hx, val_take_succ hy]; exact hst
      · simp only [Store.put, hk1]; split <;> simp
    · obtain ⟨w, c', h1, h2, h3, d, h4, h5, h6⟩ := sub_step3 (y := 0) hxw B32_pos hc
      have h4' : IntKind.u64.wrap (IntKind.u64.wrap (IntKind.u64.wrap ((x : Int) + 4294967296) - 0) - (c : Int)) = (d : Int) := h4
      have hst := diff_step (va := val ((digits m).take i)) (vb := val ((digits n).take i)) (x := x) (y := 0) (c := c) (w := w) (c' := c') ho (by rw [hv]; omega) h3
      rw [Nat.mul_zero, Nat.add_zero] at hst
      simp only [SS, Nat.reduceAdd, reduceIte, W_len, hd1 hlt, hk, zs_succ, hio, hld, part_int, f1, hd4 hb, h4', h5, hia]
      rw [store_us (o := o ++ 0 :: zs k) (by simp [Store.put]) hl1, set_mid _ _ _ _ ho]
      simp only [SS, Nat.reduceAdd, reduceIte, shr32, h6, hwi]
      refine ⟨(i + 1, _, o ++ [w], c'), ⟨(hs1 hlt).1, by simp [ho], wd_append hwd (by intro z hz; simp at hz; subst hz; exact h1), h2, ?_⟩, (hs1 hlt).2, Wk.forget (by simp [Fg, List.replicate]) (fun j => ?_) (Nat.le_refl _)⟩
      · show val (o ++ [w]) + val ((digits n).take (i + 1)) = val ((digits m).take (i + 1)) + _
        rw [val_take_succ hx, val_take_past (show (digits n).length ≤ i from by show wlen n ≤ i; omega)]; exact hst
      · simp only [Store.put, hk1]; split <;> simp
  · have hiw := hie hlt
    have e1 : (digits m).take (wlen m) = digits m := List.take_of_length_le (Nat.le_refl _)
    have e2 : (digits n).take (wlen m) = digits n := List.take_of_length_le (by show wlen n ≤ wlen m; omega)
    have hvo : val o = m - n := by
      rw [hiw, e1, e2, val_digits, val_digits] at hv
      have hlt2 := val_lt hwd
      rw [ho, hiw] at hlt2
      rcases Nat.eq_zero_or_pos c with h0 | h0
      · subst h0; omega
      · have : c = 1 := by omega
        subst this; have := lt_pow_wlen m; omega
    have hlo : wlen m = o.length := by omega
    have e3 : zs (wlen m - i) = [] := by rw [hiw, Nat.sub_self]; rfl
    have ht' := ht o hwd (by omega)
    rw [hvo] at ht'
    simp only [SS, Nat.reduceAdd, reduceIte, W_len, hd2 hlt, e3, List.append_nil]
    refine vsCall_view [(3 :: p, ⟨us o, 1, false⟩)] ht' (ViewL.cons (view_us hlo) ViewL.nil) (by simp [Store.put]) ?_
    simp only [SS, Nat.reduceAdd, reduceIte]
    refine endQ_ret ▸ endQ_of_same rfl fun i => ?_
    by_cases e : i = id
    · subst e; right; simp [Store.app, frz, Store.put, Store.of, hidn]
    · left; simp [Store.app, Store.of, List.lookup, show (i == id) = false from by simpa using e]
end
end Go.VL
end

section
set_option linter.unusedSimpArgs false
namespace Go.VL
theorem rd_first {num h V D x0 M u' l v' : Nat} (h0 : 0 < h) (hV : V = (h * B32 + l) * M + v') (hD : D = (num * B32 + x0) * M + u') (hx : x0 < B32) (hu : u' < M) (hDB : D / V < B32) : D / V ≤ min (num / h) (B32 - 1) := by
  have := kd_first h0 hV hD hx hu
  omega
section
variable {P : Program} {G : Nat → Option (List AV)}
set_option maxHeartbeats 1000000 in
theorem digitO_ok {f ft fti fc fm : FuncId} (h : Has P f (w_setsquareref01_digit fti ft fc fm)) (hti : ∀ (m : Nat) (ws : List Nat), Wd ws → wlen m ≤ 1000000 → ws.length ≤ 1000000 → VP P G fti [W m, .sl 1 (us ws)] (W (m * val ws)))
    (htr : Has P ft w_integer_trim) (hc : ∀ m n, wlen m ≤ 1000000 → wlen n ≤ 1000000 → VP P G fc [W m, W n] (.int .i64 (cmpN m n))) (hmi : ∀ m n, n ≤ m → wlen m ≤ 1000000 → VP P G fm [W m, W n] (W (m - n)))
    {id : Id} {a b t : List Nat} {V k : Nat} (hV : wlen V = k + 2) (hb : b.length = k + 3) (hbW : Wd b) (hDV : val b < B32 * V) (hk : k ≤ 900000) (p : Id) (hid : ∀ x, id ≠ x :: p) :
    CallRel P G f [.osl id 1 a.length (k + 3) false, W V] p [(id, ⟨us (a ++ b ++ t), 1, false⟩)] { val := .tup [.int .u32 ((val b / V : Nat) : Int), W (V * (val b / V))], rd := [id], up := [] } := by
  refine CallRel.has h ?_
  obtain ⟨hh, hhg⟩ : ∃ y, (digits V)[k + 1]? = some y := ⟨_, List.getElem?_eq_getElem (by show k + 1 < wlen V; omega)⟩
  obtain ⟨ll, llg⟩ : ∃ y, (digits V)[k]? = some y := ⟨_, List.getElem?_eq_getElem (by show k < wlen V; omega)⟩
  have hhB := digits_wd V hh (List.mem_of_getElem? hhg)
  obtain ⟨hVV, hvM⟩ := top2 (digits_wd V) hV hhg llg
  rw [val_digits] at hVV
  obtain ⟨hh0, _, _, _, _⟩ := norm_law (k := k + 1) hV hhg
  have hV0 : 0 < V := by
    rcases Nat.eq_zero_or_pos V with e | e
    · rw [e] at hDV; omega
    · exact e
  obtain ⟨x2, hx2⟩ : ∃ z, b[k + 2]? = some z := ⟨_, List.getElem?_eq_getElem (by omega)⟩
  obtain ⟨x1, hx1⟩ : ∃ z, b[k + 1]? = some z := ⟨_, List.getElem?_eq_getElem (by omega)⟩
  obtain ⟨z0, hz0⟩ : ∃ z, b[k]? = some z := ⟨_, List.getElem?_eq_getElem (by omega)⟩
  have hx2B := hbW x2 (List.mem_of_getElem? hx2)
  have hx1B := hbW x1 (List.mem_of_getElem? hx1)
  have hz0B := hbW z0 (List.mem_of_getElem? hz0)
  obtain ⟨hD, huM⟩ := top3 hbW hb hx2 hx1 hz0
  rw [show x2 * B32 + x1 = B32 * x2 + x1 from by rw [Nat.mul_comm]] at hD
  obtain ⟨num, hnumd⟩ : ∃ z, z = B32 * x2 + x1 := ⟨_, rfl⟩
  rw [← hnumd] at hD
  have hnumB : num < 18446744073709551616 := by rw [hnumd]; unfold B32 at *; omega
  have hDB : val b / V < B32 := Nat.div_lt_of_lt_mul (by rw [Nat.mul_comm]; exact hDV)
  have hfirst := rd_first hh0 hVV hD hz0B huM hDB
  have io2 := iaddr_off (q := id) (off := a.length) (t := false) (show k + 2 < k + 3 by omega)
  have io1 := iaddr_off (q := id) (off := a.length) (t := false) (show k + 1 < k + 3 by omega)
  have ld2 := load_us (σ := Store.of [(id, ⟨us (a ++ b ++ t), 1, false⟩)]) (q := id) (b := false) (by simp [Store.of]) (get_blk (t := t) (rfl : a.length = a.length) hx2)
  have ld1 := load_us (σ := Store.of [(id, ⟨us (a ++ b ++ t), 1, false⟩)]) (q := id) (b := false) (by simp [Store.of]) (get_blk (t := t) (rfl : a.length = a.length) hx1)
  have w2 := w64_word x2 hx2B
  have w1 := w64_word x1 hx1B
  have w0 := w64_word hh hhB
  have s2 := shl_hi x2 hx2B
  have o2 := or_hi x2 x1 hx2B hx1B
  rw [← hnumd] at o2
  have q1 := quo64 num hh hnumB (by omega)
  have p1 : IntKind.i64.wrap (((k + 2 : Nat) : Int) - 1) = ((k + 1 : Nat) : Int) := by rw [IntKind.wrap_i64]; omega
  have hwD : wlen (val b) ≤ 1000000 := by
    have h1 := val_lt hbW
    rw [hb] at h1
    have := wlen_le h1; omega
  have htm := trimO_ok (G := G) htr (id := id) (a := a) (b := b) (t := t) hbW (by omega)
  rw [hb] at htm
  obtain ⟨z, hz⟩ := trimmed b hbW
  have hview : View (Store.of [(id, ⟨us (a ++ b ++ t), 1, false⟩)]) (.osl id 1 a.length (wlen (val b)) false) (W (val b)) := by
    have : a ++ b ++ t = a ++ digits (val b) ++ (zs z ++ t) := by
      conv => lhs; rw [hz]
      simp
    rw [this]
    exact view_us_mid rfl
  have hidn : ∀ x, id ≠ x :: p := hid
  simp only [w_setsquareref01_digit, SS, DD, Nat.reduceAdd, reduceIte, W_len, hV, io2, io1, ld2, ld1, w2, w1, s2, o2, p1, W_get hhg, vload_ep, part_int, w0, q1]
  refine ⟨by simp [allApart], ?_⟩
  by_cases ctrue : (4294967295 < num / hh)
  · have d1 : decide ((4294967295 : Int) < ((num / hh : Nat) : Int)) = true := by first | exact dec_true (by omega) | exact dec_false (by omega)
    obtain ⟨q0, hq0⟩ : ∃ q0 : Nat, q0 = 4294967295 := ⟨_, rfl⟩
    have hq0B : q0 < B32 := by unfold B32; omega
    have hq0D : val b / V ≤ q0 := by unfold B32 at hfirst; omega
    have f3 : IntKind.u32.wrap (q0 : Int) = (q0 : Int) := by rw [w32, Nat.mod_eq_of_lt hq0B]
    have hb1 : ∀ (σ : Store) (q : Id), vop σ q (.buildSl 1 1 (.int .u32 0) [(0, .int .u32 (q0 : Int))]) = some { val := .osl q 1 0 1 false, up := [(q, some ⟨us [q0], 1, false⟩)] } := fun σ q => bs_us
    have htv := hti V [q0] (by intro w hw; simp at hw; subst hw; exact hq0B) (by omega) (by simp)
    rw [show val [q0] = q0 from by simp [val]] at htv
    have f3q : IntKind.u32.wrap 4294967295 = (q0 : Int) := by rw [← f3, hq0]; try rfl
    simp only [SS, Nat.reduceAdd, reduceIte, d1, f3q, hb1]
    refine vsCall_view [(32 :: p, ⟨us [q0], 1, false⟩)] htv (ViewL.cons (View.pure (W_pure _)) (ViewL.cons (view_us rfl) ViewL.nil)) (by simp [Store.put]) ?_
    simp only [SS, Nat.reduceAdd, reduceIte, vwp_loop]
    refine VW.loopQ (α := Nat × Nat) (fun x => ⟨[.osl id 1 a.length (k + 3) false, W V, .top, .top, .top, .top, .top, .int .u64 (x.1 : Int), W (V * x.1)] ++ List.replicate 42 .top, Store.of [(id, ⟨us (a ++ b ++ t), 1, false⟩)], x.2⟩)
      (fun x => val b / V ≤ x.1 ∧ x.1 < B32) (fun x => x.1) (q0, 1000) ?_ ?_ ?_
    · refine Wk.forget (by simp [Fg, List.replicate, hq0]) (fun j => ?_) (by simp only []; omega)
      by_cases e : j = id
      · subst e; right; simp [Store.app, frz, Store.put, Store.of, hidn]
      · left; simp [Store.of, List.lookup, show (j == id) = false from by simpa using e]
    · exact ⟨hq0D, hq0B⟩
    rintro ⟨q, nn⟩ ⟨hq1, hq2⟩
    simp only [] at hq1 hq2
    have hwq : wlen (V * q) ≤ 1000000 := by
      have h1 := wlen_mul V q
      have h2 : wlen q ≤ 1 := wlen_le (by simpa using hq2)
      omega
    have hcv := hc (val b) (V * q) hwD hwq
    simp only [SS, Nat.reduceAdd, reduceIte]
    refine ⟨[(id, ⟨us (a ++ b ++ t), 1, false⟩)], _, htm _, by simp [Store.of], by simp, ?_⟩
    simp only [SS, Nat.reduceAdd, reduceIte]
    refine vsCall_flat [(id, ⟨us (a ++ b ++ t), 1, false⟩)] hcv (ViewL.cons hview (ViewL.cons (View.pure (W_pure _)) ViewL.nil)) (fun _ _ _ _ _ h => by simpa [Rep] using h) (by simp [Store.of]) ?_
    by_cases hlt : val b < V * q
    · have d2 : decide (cmpN (val b) (V * q) < 0) = true := dec_true (by simp only [cmpN, cmpI]; rw [if_pos (by omega)]; decide)
      have hqp : 1 ≤ q := by
        rcases Nat.eq_zero_or_pos q with e | e
        · rw [e] at hlt; omega
        · exact e
      have hle : val b / V ≤ q - 1 := by
        have := (Nat.div_lt_iff_lt_mul hV0).2 (by rw [Nat.mul_comm] at hlt; exact hlt)
        omega
      have pq : IntKind.u64.wrap ((q : Int) - 1) = ((q - 1 : Nat) : Int) := by rw [IntKind.wrap_u64]; unfold B32 at hq2; omega
      have hmv := hmi (V * q) V (Nat.le_mul_of_pos_right _ hqp) hwq
      have em : V * q - V = V * (q - 1) := by rw [Nat.mul_sub, Nat.mul_one]
      rw [em] at hmv
      simp only [SS, Nat.reduceAdd, reduceIte, d2, pq]
      refine vsCall_VP hmv (by simp [W_pure]) ?_
      simp only [SS, Nat.reduceAdd, reduceIte]
      exact ⟨(q - 1, _), ⟨hle, by simp only []; omega⟩, by simp only []; omega, Wk.slots (by simp [Fg, List.replicate]) (Nat.le_refl _)⟩
    · have d2 : decide (cmpN (val b) (V * q) < 0) = false := dec_false (by simp only [cmpN, cmpI]; rw [if_neg (by omega)]; split <;> decide)
      have hqe : q = val b / V := by
        have := (Nat.le_div_iff_mul_le hV0).2 (show q * V ≤ val b by rw [Nat.mul_comm]; omega)
        omega
      have f4 : IntKind.u32.wrap (q : Int) = (q : Int) := by rw [w32, Nat.mod_eq_of_lt hq2]
      simp only [SS, Nat.reduceAdd, reduceIte, d2, f4]
      rw [← hqe]
      exact endQ_ret ▸ endQ_of_same rfl fun i => .inr rfl
  by_cases cfalse : (¬ 4294967295 < num / hh)
  · have d1 : decide ((4294967295 : Int) < ((num / hh : Nat) : Int)) = false := by first | exact dec_true (by omega) | exact dec_false (by omega)
    obtain ⟨q0, hq0⟩ : ∃ q0 : Nat, q0 = (num / hh) := ⟨_, rfl⟩
    have hq0B : q0 < B32 := by unfold B32; omega
    have hq0D : val b / V ≤ q0 := by unfold B32 at hfirst; omega
    have f3 : IntKind.u32.wrap (q0 : Int) = (q0 : Int) := by rw [w32, Nat.mod_eq_of_lt hq0B]
    have hb1 : ∀ (σ : Store) (q : Id), vop σ q (.buildSl 1 1 (.int .u32 0) [(0, .int .u32 (q0 : Int))]) = some { val := .osl q 1 0 1 false, up := [(q, some ⟨us [q0], 1, false⟩)] } := fun σ q => bs_us
    have htv := hti V [q0] (by intro w hw; simp at hw; subst hw; exact hq0B) (by omega) (by simp)
    rw [show val [q0] = q0 from by simp [val]] at htv
    have f3q : IntKind.u32.wrap ((num / hh : Nat) : Int) = (q0 : Int) := by rw [← f3, hq0]; try rfl
    simp only [SS, Nat.reduceAdd, reduceIte, d1, f3q, hb1]
    refine vsCall_view [(31 :: p, ⟨us [q0], 1, false⟩)] htv (ViewL.cons (View.pure (W_pure _)) (ViewL.cons (view_us rfl) ViewL.nil)) (by simp [Store.put]) ?_
    simp only [SS, Nat.reduceAdd, reduceIte, vwp_loop]
    refine VW.loopQ (α := Nat × Nat) (fun x => ⟨[.osl id 1 a.length (k + 3) false, W V, .top, .top, .top, .top, .top, .int .u64 (x.1 : Int), W (V * x.1)] ++ List.replicate 42 .top, Store.of [(id, ⟨us (a ++ b ++ t), 1, false⟩)], x.2⟩)
      (fun x => val b / V ≤ x.1 ∧ x.1 < B32) (fun x => x.1) (q0, 1000) ?_ ?_ ?_
    · refine Wk.forget (by simp [Fg, List.replicate, hq0]) (fun j => ?_) (by simp only []; omega)
      by_cases e : j = id
      · subst e; right; simp [Store.app, frz, Store.put, Store.of, hidn]
      · left; simp [Store.of, List.lookup, show (j == id) = false from by simpa using e]
    · exact ⟨hq0D, hq0B⟩
    rintro ⟨q, nn⟩ ⟨hq1, hq2⟩
    simp only [] at hq1 hq2
    have hwq : wlen (V * q) ≤ 1000000 := by
      have h1 := wlen_mul V q
      have h2 : wlen q ≤ 1 := wlen_le (by simpa using hq2)
      omega
    have hcv := hc (val b) (V * q) hwD hwq
    simp only [SS, Nat.reduceAdd, reduceIte]
    refine ⟨[(id, ⟨us (a ++ b ++ t), 1, false⟩)], _, htm _, by simp [Store.of], by simp, ?_⟩
    simp only [SS, Nat.reduceAdd, reduceIte]
    refine vsCall_flat [(id, ⟨us (a ++ b ++ t), 1, false⟩)] hcv (ViewL.cons hview (ViewL.cons (View.pure (W_pure _)) ViewL.nil)) (fun _ _ _ _ _ h => by simpa [Rep] using h) (by simp [Store.of]) ?_
    by_cases hlt : val b < V * q
    · have d2 : decide (cmpN (val b) (V * q) < 0) = true := dec_true (by simp only [cmpN, cmpI]; rw [if_pos (by omega)]; decide)
      have hqp : 1 ≤ q := by
        rcases Nat.eq_zero_or_pos q with e | e
        · rw [e] at hlt; omega
        · exact e
      have hle : val b / V ≤ q - 1 := by
        have := (Nat.div_lt_iff_lt_mul hV0).2 (by rw [Nat.mul_comm] at hlt; exact hlt)
        omega
      have pq : IntKind.u64.wrap ((q : Int) - 1) = ((q - 1 : Nat) : Int) := by rw [IntKind.wrap_u64]; unfold B32 at hq2; omega
      have hmv := hmi (V * q) V (Nat.le_mul_of_pos_right _ hqp) hwq
      have em : V * q - V = V * (q - 1) := by rw [Nat.mul_sub, Nat.mul_one]
      rw [em] at hmv
      simp only [SS, Nat.reduceAdd, reduceIte, d2, pq]
      refine vsCall_VP hmv (by simp [W_pure]) ?_
      simp only [SS, Nat.reduceAdd, reduceIte]
      exact ⟨(q - 1, _), ⟨hle, by simp only []; omega⟩, by simp only []; omega, Wk.slots (by simp [Fg, List.replicate]) (Nat.le_refl _)⟩
    · have d2 : decide (cmpN (val b) (V * q) < 0) = false := dec_false (by simp only [cmpN, cmpI]; rw [if_neg (by omega)]; split <;> decide)
      have hqe : q = val b / V := by
        have := (Nat.le_div_iff_mul_le hV0).2 (show q * V ≤ val b by rw [Nat.mul_comm]; omega)
        omega
      have f4 : IntKind.u32.wrap (q : Int) = (q : Int) := by rw [w32, Nat.mod_eq_of_lt hq2]
      simp only [SS, Nat.reduceAdd, reduceIte, d2, f4]
      rw [← hqe]
      exact endQ_ret ▸ endQ_of_same rfl fun i => .inr rfl
  exact absurd ctrue cfalse
end
end Go.VL
end

section
set_option linter.unusedSimpArgs false
namespace Go.VL
theorem pad_mid {k r j y : Nat} (h : (pad (k + 1) r)[j]? = some y) (hr : r < B32 ^ (k + 1)) : y = (if j < wlen r then ((digits r)[j]?).getD 0 else 0) := by
  obtain ⟨z, hz⟩ := trimmed (pad (k + 1) r) (pad_wd _ _)
  rw [val_padded hr] at hz
  rw [hz] at h
  by_cases hj : j < wlen r
  · rw [if_pos hj]
    rw [List.getElem?_append_left (show j < (digits r).length from hj)] at h
    rw [h]; rfl
  · rw [if_neg hj]
    rw [List.getElem?_append_right (show (digits r).length ≤ j from by show wlen r ≤ j; omega)] at h
    exact List.eq_of_mem_replicate (List.mem_of_getElem? h)
theorem set_part {a p b t : List Nat} {k j w : Nat} (hp : p.length = k) (hb : b.length = k) (hj : j < k) : (a ++ (p.take j ++ b.drop j) ++ t).set (a.length + j) w = a ++ (p.take j ++ w :: b.drop (j + 1)) ++ t := by
  have h1 : (p.take j).length = j := by rw [List.length_take]; omega
  obtain ⟨x, hx⟩ : ∃ x, b.drop j = x :: b.drop (j + 1) := ⟨_, List.drop_eq_getElem_cons (show j < b.length by omega)⟩
  rw [hx, List.append_assoc, List.set_append_right _ _ (by omega), show a.length + j - a.length = j from by omega, List.append_assoc, List.set_append_right _ _ (by omega), h1, Nat.sub_self]
  simp
theorem set_part2 {a p b t : List Nat} {k j v w : Nat} (hp : p.length = k) (hj : j < k) : (a ++ (p.take j ++ v :: b) ++ t).set (a.length + j) w = a ++ (p.take j ++ w :: b) ++ t := by
  have h1 : (p.take j).length = j := by rw [List.length_take]; omega
  rw [List.append_assoc, List.set_append_right _ _ (by omega), show a.length + j - a.length = j from by omega, List.append_assoc, List.set_append_right _ _ (by omega), h1, Nat.sub_self]
  simp
section
variable {P : Program} {G : Nat → Option (List AV)}
set_option maxRecDepth 100000 in
set_option maxHeartbeats 4000000 in
theorem rdivide_ok {f fc fsh fw fby fl fsd ft fdg fmi fbk ftm : FuncId} (h : Has P f (w_setsquareref01_divide fc fsh fw fby fl fsd ft fdg fmi fbk))
    (hc : ∀ m n, wlen m ≤ 1000000 → wlen n ≤ 1000000 → VP P G fc [W m, W n] (.int .i64 (cmpN m n)))
    (htu : ∀ n, n < 18446744073709551616 → VP P G fsh [W n] (.int .u64 ((n : Nat) : Int))) (hu : ∀ n, n < 18446744073709551616 → VP P G fw [.int .u64 ((n : Nat) : Int)] (W n))
    (hby : ∀ m w : Nat, wlen m ≤ 1000000 → w < B32 → w ≠ 0 → VP P G fby [W m, .int .u32 (w : Int)] (.tup [W (m / w), .int .u32 ((m % w : Nat) : Int)]))
    (hlen : Has P fl w_setsquareref01_length) (hsd : Has P fsd w_setsquareref01_shifted) (ht : TrimC P G ft) (htr : Has P ft w_integer_trim)
    (hdg : Has P fdg (w_setsquareref01_digit ftm ft fc fmi)) (hti : ∀ (m : Nat) (ws : List Nat), Wd ws → wlen m ≤ 1000000 → ws.length ≤ 1000000 → VP P G ftm [W m, .sl 1 (us ws)] (W (m * val ws)))
    (hmi : Has P fmi (w_setsquareref01_minus ft)) (hbk : ∀ m s : Nat, wlen m ≤ 1000000 → s ≤ 31 → VP P G fbk [W m, .int .i64 (s : Int)] (W (m / 2 ^ s)))
    (m n : Nat) (hn0 : n ≠ 0) (hm : wlen m ≤ 900000) (hn : wlen n ≤ 900000) : VP P G f [W m, W n] (.tup [W (m / n), W (m % n)]) := by
  refine VP.has h ?_
  have hcmp := hc m n (by omega) (by omega)
  have hnil : m / n = 0 → ∀ σ, View σ .nils (W (m / n)) := fun h σ => by rw [h]; simp only [W, digits_zero, us]; exact View.nils 1
  have hlt1 : m < n → m / n = 0 ∧ m % n = m := fun h => ⟨Nat.div_eq_of_lt h, Nat.mod_eq_of_lt h⟩
  have c1 : m < n → decide (cmpN m n < 0) = true := fun h => dec_true (by simp only [cmpN, cmpI]; rw [if_pos (by omega)]; decide)
  have c2 : ¬ m < n → decide (cmpN m n < 0) = false := fun h => dec_false (by simp only [cmpN, cmpI]; rw [if_neg (by omega)]; split <;> decide)
  have l1 : wlen m ≤ 2 → decide ((wlen m : Int) ≤ 2) = true := fun h => dec_true (by omega)
  have l2 : ¬ wlen m ≤ 2 → decide ((wlen m : Int) ≤ 2) = false := fun h => dec_false (by omega)
  have b1 : wlen n = 1 → decide ((wlen n : Int) = 1) = true := fun h => dec_true (by omega)
  simp only [w_setsquareref01_divide, SS, Nat.reduceAdd, reduceIte]
  refine vsCall_VP hcmp (by simp [W_pure]) ?_
  by_cases h1 : m < n
  · simp only [SS, Nat.reduceAdd, reduceIte, c1 h1]
    obtain ⟨e1, e2⟩ := hlt1 h1
    refine retQ_ret ▸ ⟨.tup [.nils, W m], rfl, View.tup (ViewL.cons (hnil e1 _) (ViewL.cons ?_ ViewL.nil))⟩
    rw [e2]; exact View.pure (W_pure _)
  have hnm : n ≤ m := by omega
  have hwn : wlen n ≠ 0 := fun e => hn0 (wlen_pos_iff.1 e)
  by_cases h2 : wlen m ≤ 2
  · have hm2 := lt_of_wlen2 h2
    have hn2 : n < 18446744073709551616 := by omega
    have hq := quo64 m n hm2 hn0
    have hr := rem64 m n hn0
    have hu1 := hu (m / n) (Nat.lt_of_le_of_lt (Nat.div_le_self _ _) hm2)
    have hu2 := hu (m % n) (Nat.lt_of_le_of_lt (Nat.mod_le _ _) hm2)
    simp only [SS, Nat.reduceAdd, reduceIte, c2 h1, W_len, l1 h2]
    refine vsCall_VP (htu m hm2) (by simp [W_pure]) ?_
    simp only [SS, Nat.reduceAdd, reduceIte]
    refine vsCall_VP (htu n hn2) (by simp [W_pure]) ?_
    simp only [SS, DD, Nat.reduceAdd, reduceIte, hq]
    refine vdCall_VP hu1 (by simp [PureAV.int]) ?_
    simp only [SS, DD, Nat.reduceAdd, reduceIte, hr]
    refine vdCall_VP hu2 (by simp [PureAV.int]) ?_
    simp only [SS, DD, Nat.reduceAdd, reduceIte]
    refine ⟨by simp [allApart, apart], ?_⟩
    exact retQ_ret ▸ retQ_of_pure rfl (PureAV.tup (by intro c hc; simp at hc; rcases hc with rfl | rfl <;> exact W_pure _))
  by_cases h3 : wlen n = 1
  · obtain ⟨x, hx⟩ : ∃ x, (digits n)[0]? = some x := ⟨_, List.getElem?_eq_getElem (by show 0 < wlen n; omega)⟩
    have hxn : x = n := by
      have e := val_take_succ hx
      rw [List.take_of_length_le (show (digits n).length ≤ 1 from by show wlen n ≤ 1; omega), val_digits] at e
      simp [val] at e; omega
    have hg := W_get hx
    rw [hxn] at hg
    have hnB : n < B32 := by rw [← hxn]; exact digits_wd n x (List.mem_of_getElem? hx)
    have hdv := hby m n (by omega) hnB hn0
    have hg' : viaddrS 1 (W n) (.int .i64 0) = some (.ep (AV.int .u32 (n : Int)).cells 0) := hg
    have hmB : m % n < B32 := Nat.lt_trans (Nat.mod_lt _ (Nat.pos_of_ne_zero hn0)) hnB
    have f9 := w64_word (m % n) hmB
    have hu9 := hu (m % n) (by unfold B32 at hmB; omega)
    simp only [SS, Nat.reduceAdd, reduceIte, c2 h1, W_len, l2 h2, b1 h3, hg', vload_ep, part_int]
    refine vsCall_VP hdv (by simp [W_pure, PureAV.int]) ?_
    simp only [SS, Nat.reduceAdd, reduceIte, tup2_0, tup2_1, f9]
    refine vsCall_VP hu9 (by simp [PureAV.int]) ?_
    simp only [SS, Nat.reduceAdd, reduceIte]
    exact retQ_ret ▸ retQ_of_pure rfl (PureAV.tup (by intro c hc; simp at hc; rcases hc with rfl | rfl <;> exact W_pure _))
  obtain ⟨k, hk⟩ : ∃ k, wlen n = k + 2 := ⟨wlen n - 2, by omega⟩
  obtain ⟨x, hx⟩ : ∃ x, (digits n)[k + 1]? = some x := ⟨_, List.getElem?_eq_getElem (by show k + 1 < wlen n; omega)⟩
  obtain ⟨hx0, hxB, hV, hwV, hs⟩ := norm_law hk hx
  obtain ⟨hbl1, hbl2⟩ := blen_le hxB hx0
  have hlenv := rlength_ok (G := G) hlen hk hx (by omega)
  generalize hsd' : 32 - blen x = s at hV hwV hs
  have m1 : IntKind.i64.wrap (32 * ((k + 2 : Nat) : Int)) = ((32 * (k + 2) : Nat) : Int) := by rw [IntKind.wrap_i64]; omega
  have m2 : IntKind.i64.wrap (((32 * (k + 2) : Nat) : Int) - ((32 * (k + 1) + blen x : Nat) : Int)) = (s : Int) := by rw [IntKind.wrap_i64]; omega
  obtain ⟨V, hVd⟩ : ∃ V, V = n * 2 ^ s := ⟨_, rfl⟩
  obtain ⟨U, hUd⟩ : ∃ U, U = m * 2 ^ s := ⟨_, rfl⟩
  rw [← hVd] at hV hwV
  have hslm := shifted_ok (G := G) hsd m s (by omega) hs
  have hsln := shifted_ok (G := G) hsd n s (by omega) hs
  rw [← hVd] at hsln
  rw [← hUd] at hslm
  obtain ⟨L, hL⟩ : ∃ L, wlen m + 1 = L + (k + 2) := ⟨wlen m + 1 - (k + 2), by have := wlen_mono hnm; omega⟩
  have hUB : U < B32 ^ (wlen m + 1) := by
    have h4 : 2 ^ s ≤ 2 ^ 32 := Nat.pow_le_pow_right (by decide) (by omega)
    have h5 : m * 2 ^ s ≤ m * 2 ^ 32 := Nat.mul_le_mul_left _ h4
    have h6 : m * 2 ^ 32 < B32 ^ wlen m * 2 ^ 32 := Nat.mul_lt_mul_of_pos_right (lt_pow_wlen m) (by decide)
    rw [Nat.pow_succ, hUd]; exact Nat.lt_of_le_of_lt h5 h6
  obtain ⟨A0, R0, hAR, hA0, hR0⟩ : ∃ A R, pad (wlen m + 1) U = A ++ R ++ [] ∧ A.length = L ∧ R.length = k + 2 :=
    ⟨(pad (wlen m + 1) U).take L, (pad (wlen m + 1) U).drop L, by simp, by simp [pad_len]; omega, by simp [pad_len]; omega⟩
  have hAw : Wd A0 ∧ Wd R0 := by
    have h4 := pad_wd (wlen m + 1) U
    rw [hAR] at h4
    exact ⟨fun w hw => h4 w (by simp [hw]), fun w hw => h4 w (by simp [hw])⟩
  have hU0 : U = val A0 + B32 ^ L * val R0 := by
    have h4 := val_padded hUB
    rw [hAR, List.append_nil, val_append, hA0] at h4
    exact h4.symm
  have hR0V : val R0 < V := kd_start (k := k + 2) hVd (by have := pow_wlen_le hn0; rw [hk] at this; exact this) (by
    have h4 := lt_pow_wlen m
    have : L + (k + 2 - 1) = wlen m := by omega
    rw [this]; exact h4) (hUd ▸ hU0)
  have hwV' : wlen V = k + 2 := hwV
  have hV0 : 0 < V := Nat.lt_of_le_of_lt (Nat.zero_le _) hR0V
  have hlen2 : IntKind.i64.wrap (((wlen m : Nat) : Int) - ((k + 2 : Nat) : Int)) = (L : Int) - 1 := by rw [IntKind.wrap_i64]; omega
  have hmk : ∀ p : Id, vmksl p 1 4 (.int .u32 0) (.int .i64 ((wlen m : Nat) : Int)) (.int .i64 ((wlen m : Nat) : Int)) = some { val := .osl p 1 0 (wlen m) false, up := [(p, some ⟨us (List.replicate (wlen m) 0), 1, false⟩)] } := fun p => mkz_us (by omega)
  rw [hAR] at hslm
  rw [hk] at hsln
  have b3 : decide (((k + 2 : Nat) : Int) = 1) = false := dec_false (by omega)
  have hVp : V < B32 ^ (k + 2 + 1) := Nat.lt_of_lt_of_le hV (Nat.pow_le_pow_right B32_pos (by omega))
  have htv : VP P G ft [.sl 1 (us (pad (k + 2 + 1) V))] (W V) := by
    have := ht (pad (k + 2 + 1) V) (pad_wd _ _) (by rw [pad_len]; omega)
    rwa [val_padded hVp] at this
  simp only [SS, Nat.reduceAdd, reduceIte, c2 h1, W_len, l2 h2, b3, hk, m1]
  refine vsCall_VP hlenv (by simp [W_pure]) ?_
  simp only [SS, Nat.reduceAdd, reduceIte, m2]
  refine ⟨[], _, hslm _, by simp, by simp, ?_⟩
  simp only [SS, Nat.reduceAdd, reduceIte]
  refine ⟨[], _, hsln _, by simp, by simp, ?_⟩
  simp only [SS, Nat.reduceAdd, reduceIte]
  refine vsCall_view [([4, 24], ⟨us (pad (k + 2 + 1) V), 1, false⟩)] htv (ViewL.cons (view_us (pad_len _ _).symm) ViewL.nil) (by simp [Store.put, Store.app]) ?_
  simp only [SS, Nat.reduceAdd, reduceIte, W_len, hwV', hmk, hlen2, vwp_loop]
  refine VW.loopQ (α := Nat × List Nat × List Nat × Nat × List Nat × Nat) (fun x => ⟨List.replicate 10 .top ++ [.int .i64 (s : Int), .osl [4, 21] 1 0 (wlen m + 1) false, W V, .osl [30] 1 0 (wlen m) false, .int .i64 ((x.1 : Int) - 1)] ++ List.replicate 113 .top,
    Store.put (Store.put (fun _ => none) [4, 21] (some ⟨us (x.2.1 ++ x.2.2.1 ++ zs x.2.2.2.1), 1, false⟩)) [30] (some ⟨us (zs x.1 ++ (x.2.2.2.2.1 ++ zs (k + 1))), 1, false⟩), x.2.2.2.2.2⟩)
    (fun x => x.1 + x.2.2.2.2.1.length = L ∧ x.2.1.length = x.1 ∧ x.2.2.1.length = k + 2 ∧ x.1 + (k + 2) + x.2.2.2.1 = wlen m + 1 ∧ Wd x.2.1 ∧ Wd x.2.2.1 ∧ Wd x.2.2.2.2.1 ∧ val x.2.2.1 < V ∧ U = val x.2.1 + B32 ^ x.1 * (val x.2.2.2.2.1 * V + val x.2.2.1) ∧ 1000 ≤ x.2.2.2.2.2) (fun x => x.1) (L, A0, R0, 0, [], 1000) ?_ ?_ ?_
  · refine Wk.forget (by simp [Fg, List.replicate]) (fun j => ?_) (by simp only []; omega)
    have hLk : zs (wlen m) = zs L ++ ([] ++ zs (k + 1)) := by
      simp only [zs, List.nil_append, List.replicate_append_replicate]; congr 1; omega
    simp only [List.append_nil, Store.put, Store.app, frz, List.map_cons, List.map_nil, ← hLk, zs_zero]
    by_cases e1 : j = [30]
    · subst e1; simp [zs]
    · by_cases e2 : j = [4, 21]
      · subst e2; simp
      · simp [e1, e2]
  · refine ⟨by simp, hA0, hR0, by simp only []; omega, hAw.1, hAw.2, by intro w hw; simp at hw, hR0V, ?_, Nat.le_refl _⟩
    show U = val A0 + B32 ^ L * (val [] * V + val R0)
    rw [show val [] = 0 from rfl, Nat.zero_mul, Nat.zero_add]; exact hU0
  rintro ⟨c, A, R, tl, o, nn⟩ ⟨hcc, hA, hR, htl, hAW, hRW, hoW, hRV, hUe, hnn⟩
  simp only [] at hcc hA hR htl hAW hRW hoW hRV hUe hnn
  rcases Nat.eq_zero_or_pos c with h0 | hcp
  · subst h0
    have d0 : decide ((0 : Int) ≤ ((0 : Nat) : Int) - 1) = false := by decide
    obtain rfl : A = [] := List.length_eq_zero_iff.1 hA
    have hU' : m * 2 ^ s = val o * (n * 2 ^ s) + val R := by
      rw [← hUd, ← hVd, hUe]
      show val [] + B32 ^ 0 * _ = _
      simp [val]
    obtain ⟨g1, g2, g3⟩ := kd_done hn0 hU' (hVd ▸ hRV)
    have hoL : wlen m = (o ++ zs (k + 1)).length := by simp [zs]; omega
    have htq := ht (o ++ zs (k + 1)) (wd_append hoW (zs_wd _)) (by omega)
    rw [show val (o ++ zs (k + 1)) = val o from val_pre o (k + 1), g1] at htq
    have hRl : wlen m + 1 = (R ++ zs tl).length := by simp [zs]; omega
    have htR := ht (R ++ zs tl) (wd_append hRW (zs_wd _)) (by omega)
    rw [show val (R ++ zs tl) = val R from val_pre R tl] at htR
    have hwR : wlen (val R) ≤ 1000000 := by rw [← hVd, hwV'] at g3; omega
    have hbkR := hbk (val R) s hwR hs
    rw [g2] at hbkR
    simp only [SS, Nat.reduceAdd, reduceIte, d0, zs_zero, List.nil_append]
    refine vsCall_view [([30], ⟨us (o ++ zs (k + 1)), 1, false⟩)] htq (ViewL.cons (view_us hoL) ViewL.nil) (by simp [Store.put]) ?_
    simp only [SS, Nat.reduceAdd, reduceIte]
    refine vsCall_view [([4, 21], ⟨us (R ++ zs tl), 1, false⟩)] htR (ViewL.cons (view_us hRl) ViewL.nil) (by simp [Store.put, Store.app, frz]) ?_
    simp only [SS, Nat.reduceAdd, reduceIte]
    refine vsCall_VP hbkR (by simp [W_pure, PureAV.int]) ?_
    simp only [SS, Nat.reduceAdd, reduceIte]
    exact retQ_ret ▸ retQ_of_pure rfl (PureAV.tup (by intro c hc; simp at hc; rcases hc with rfl | rfl <;> exact W_pure _))
  obtain ⟨i, rfl⟩ : ∃ i, c = i + 1 := ⟨c - 1, by omega⟩
  have d0 : decide ((0 : Int) ≤ (i : Int)) = true := dec_true (by omega)
  have hj : ((i + 1 : Nat) : Int) - 1 = (i : Int) := by omega
  have hji : IntKind.i64.wrap ((i : Int) - 1) = (i : Int) - 1 := by rw [IntKind.wrap_i64]; omega
  obtain ⟨A', y, rfl, hA'⟩ := split_last hA
  obtain ⟨b, hbd⟩ : ∃ b, b = y :: R := ⟨_, rfl⟩
  have eb : A' ++ [y] ++ R ++ zs tl = A' ++ b ++ zs tl := by rw [hbd]; simp
  have hyB : y < B32 := hAW y (by simp)
  have hA'W : Wd A' := fun w hw => hAW w (by simp [hw])
  have hbl : b.length = k + 3 := by rw [hbd]; simp [hR]
  have hbW : Wd b := by
    intro w hw; rw [hbd] at hw
    rcases List.mem_cons.1 hw with rfl | hw
    · exact hyB
    · exact hRW w hw
  have hbv : val b = y + B32 * val R := by rw [hbd]; rfl
  obtain ⟨hDV, hDB⟩ := kd_D hyB hRV
  rw [← hbv] at hDV hDB
  have a1 := add_i64 i (k + 2) (by omega)
  have a4 : IntKind.i64.wrap (((i + (k + 2) : Nat) : Int) + 1) = ((i + (k + 3) : Nat) : Int) := by rw [IntKind.wrap_i64]; omega
  have iaq := iaddr_own (q := [30]) (t := false) (show i < wlen m by omega)
  have hslc : vslice 1 (.osl [4, 21] 1 0 (wlen m + 1) false) (some (.int .i64 (i : Int))) (some (.int .i64 ((i + (k + 3) : Nat) : Int))) none = some (.osl [4, 21] 1 A'.length (k + 3) false) := by
    rw [slice_own (by omega) (by omega), hA']
    congr 2; omega
  have hid : ∀ j, 1000 ≤ j → ∀ x, ([4, 21] : List Nat) ≠ x :: [j] := fun j h x e => by simp at e; omega
  have hdgo : ∀ j, 1000 ≤ j → _ := fun j hj => digitO_ok (G := G) hdg hti htr hc (fun m n h1 h2 => rminus_ok hmi ht m n h1 h2) (id := [4, 21]) (a := A') (b := b) (t := zs tl) hwV' hbl hbW hDV (by omega) [j] (hid j hj)
  have htmo := trimO_ok (G := G) htr (id := [4, 21]) (a := A') (b := b) (t := zs tl) hbW (by omega)
  rw [hbl] at htmo
  obtain ⟨z, hz⟩ := trimmed b hbW
  have he : A' ++ b ++ zs tl = A' ++ digits (val b) ++ (zs z ++ zs tl) := by
    conv => lhs; rw [hz]
    simp
  have hmodV : val b % V < V := Nat.mod_lt _ hV0
  have hrest : val b - V * (val b / V) = val b % V := by have := Nat.div_add_mod (val b) V; omega
  have hwb : wlen (val b) ≤ 1000000 := by
    have h1 := val_lt hbW
    rw [hbl] at h1
    have := wlen_le h1; omega
  have hmio : ∀ j, 1000 ≤ j → _ := fun j hj => minusO_ok (G := G) hmi ht (id := [4, 21]) (a := A') (t := zs z ++ zs tl) (val b) (V * (val b / V)) (Nat.mul_div_le _ _) hwb [j] (hid j hj)
  rw [hrest, ← he] at hmio
  have hqL : i < (zs (i + 1) ++ (o ++ zs (k + 1))).length := by simp [zs]; omega
  rw [eb]
  simp only [SS, Nat.reduceAdd, reduceIte, hj, d0, W_len, hwV', a1, a4, hslc]
  refine ⟨[([4, 21], ⟨us (A' ++ b ++ zs tl), 1, false⟩)], _, hdgo _ (by omega), by simp [Store.put], by simp, ?_⟩
  simp only [SS, Nat.reduceAdd, reduceIte, tup2_0, tup2_1, iaq]
  rw [store_us (o := zs (i + 1) ++ (o ++ zs (k + 1))) (by simp [Store.put, Store.app]) hqL, set_post]
  simp only [SS, Nat.reduceAdd, reduceIte]
  refine ⟨[([4, 21], ⟨us (A' ++ b ++ zs tl), 1, false⟩)], _, htmo _, by simp [Store.put, Store.app], by simp, ?_⟩
  simp only [SS, Nat.reduceAdd, reduceIte]
  refine ⟨[([4, 21], ⟨us (A' ++ b ++ zs tl), 1, false⟩)], _, hmio _ (by omega), by simp [Store.put, Store.app], by simp, ?_⟩
  simp only [SS, Nat.reduceAdd, reduceIte, vwp_loop]
  obtain ⟨r, hr⟩ : ∃ r, r = val b % V := ⟨_, rfl⟩
  rw [← hr] at hmodV ⊢
  have hrB : r < B32 ^ (k + 2) := Nat.lt_trans hmodV hV
  have hrB3 : r < B32 ^ (k + 2 + 1) := Nat.lt_of_lt_of_le hrB (Nat.pow_le_pow_right B32_pos (by omega))
  obtain ⟨pd, hpd⟩ : ∃ pd, pd = pad (k + 2 + 1) r := ⟨_, rfl⟩
  have hpdl : pd.length = k + 3 := by rw [hpd]; exact pad_len _ _
  refine VW.loopQ (α := Nat × Nat) (fun x => ⟨List.replicate 10 .top ++ [.int .i64 (s : Int), .osl [4, 21] 1 0 (wlen m + 1) false, W V, .osl [30] 1 0 (wlen m) false, .int .i64 (i : Int), .osl [4, 21] 1 A'.length (k + 3) false, .top, .top, W r, .int .i64 (x.1 : Int)] ++ List.replicate 108 .top,
    Store.put (Store.put (fun _ => none) [4, 21] (some ⟨us (A' ++ (pd.take x.1 ++ b.drop x.1) ++ zs tl), 1, false⟩)) [30] (some ⟨us (zs i ++ val b / V :: (o ++ zs (k + 1))), 1, false⟩), x.2⟩)
    (fun x => x.1 ≤ k + 3 ∧ 1000 ≤ x.2) (fun x => k + 3 - x.1) (0, nn + 1000) ?_ ?_ ?_
  · refine Wk.forget (by simp [Fg, List.replicate]) (fun j => ?_) (by simp only []; omega)
    simp only [List.take_zero, List.drop_zero, List.nil_append, Store.put]
    by_cases e1 : j = [30]
    · subst e1; simp
    · by_cases e2 : j = [4, 21]
      · subst e2; simp
      · simp [e1, e2]
  · exact ⟨Nat.zero_le _, by simp only []; omega⟩
  rintro ⟨j, mm⟩ ⟨hjk, hmm⟩
  simp only [] at hjk hmm
  have hd1 : j < k + 3 → decide ((j : Int) < ((k + 3 : Nat) : Int)) = true := fun h => dec_true (by omega)
  have hd2 : ¬ j < k + 3 → decide ((j : Int) < ((k + 3 : Nat) : Int)) = false := fun h => dec_false (by omega)
  have hd3 : j < wlen r → decide ((j : Int) < (wlen r : Int)) = true := fun h => dec_true (by omega)
  have hd4 : ¬ j < wlen r → decide ((j : Int) < (wlen r : Int)) = false := fun h => dec_false (by omega)
  have hwj := wrap_succ_i64 j (by omega)
  by_cases hjt : j < k + 3
  · have hio := iaddr_off (q := [4, 21]) (off := A'.length) (t := false) hjt
    have hbkl : (pd.take j ++ b.drop j).length = k + 3 := by simp [hpdl, hbl]; omega
    obtain ⟨y', hy'⟩ : ∃ y, pd[j]? = some y := ⟨_, List.getElem?_eq_getElem (by omega)⟩
    have hpm := pad_mid (hpd ▸ hy') hrB3
    have hset : ∀ w, (A' ++ (pd.take j ++ b.drop j) ++ zs tl).set (A'.length + j) w = A' ++ (pd.take j ++ w :: b.drop (j + 1)) ++ zs tl := fun w => set_part hpdl hbl hjt
    have hset2 : ∀ v w, (A' ++ (pd.take j ++ v :: b.drop (j + 1)) ++ zs tl).set (A'.length + j) w = A' ++ (pd.take j ++ w :: b.drop (j + 1)) ++ zs tl := fun v w => set_part2 hpdl hjt
    have hl1 : A'.length + j < (A' ++ (pd.take j ++ b.drop j) ++ zs tl).length := by simp [hpdl, hbl]; omega
    have hl2 : ∀ v, A'.length + j < (A' ++ (pd.take j ++ v :: b.drop (j + 1)) ++ zs tl).length := fun v => by simp [hpdl, hbl]; omega
    have htk : pd.take j ++ y' :: b.drop (j + 1) = pd.take (j + 1) ++ b.drop (j + 1) := by
      have := List.take_add_one (l := pd) (i := j)
      rw [hy'] at this; rw [this]; simp
    have hmea : k + 3 - (j + 1) < k + 3 - j := by omega
    have hst0 : ∀ σ : Store, σ [4, 21] = some ⟨us (A' ++ (pd.take j ++ b.drop j) ++ zs tl), 1, false⟩ → vstore σ 1 (.ref [4, 21] (A'.length + j) 0) (.int .u32 0) = some { val := .tup [], rd := [[4, 21]], up := [([4, 21], some ⟨us (A' ++ (pd.take j ++ 0 :: b.drop (j + 1)) ++ zs tl), 1, false⟩)] } := fun σ hσ => by
      have := store_us (x := 0) hσ hl1
      rw [hset] at this; exact this
    by_cases hjr : j < wlen r
    · obtain ⟨dj, hdj⟩ : ∃ y, (digits r)[j]? = some y := ⟨_, List.getElem?_eq_getElem hjr⟩
      rw [if_pos hjr, hdj, Option.getD_some] at hpm
      subst hpm
      simp only [SS, Nat.reduceAdd, reduceIte, hd1 hjt, hio]
      rw [hst0 _ (by simp [Store.put])]
      simp only [SS, Nat.reduceAdd, reduceIte, W_len, hd3 hjr, W_get hdj, vload_ep, part_int, hio]
      rw [store_us (o := A' ++ (pd.take j ++ 0 :: b.drop (j + 1)) ++ zs tl) (by simp [Store.put]) (hl2 _), hset2, htk]
      simp only [SS, Nat.reduceAdd, reduceIte, hwj]
      refine ⟨(j + 1, _), ⟨by simp only []; omega, by simp only []; omega⟩, hmea, Wk.forget (by simp [Fg, List.replicate]) (fun q => ?_) (Nat.le_refl _)⟩
      simp only [Store.put]
      by_cases e1 : q = [30]
      · subst e1; simp
      · by_cases e2 : q = [4, 21]
        · subst e2; simp
        · simp [e1, e2]
    · rw [if_neg hjr] at hpm
      subst hpm
      simp only [SS, Nat.reduceAdd, reduceIte, hd1 hjt, hio]
      rw [hst0 _ (by simp [Store.put]), htk]
      simp only [SS, Nat.reduceAdd, reduceIte, W_len, hd4 hjr, hwj]
      refine ⟨(j + 1, _), ⟨by simp only []; omega, by simp only []; omega⟩, hmea, Wk.forget (by simp [Fg, List.replicate]) (fun q => ?_) (Nat.le_refl _)⟩
      simp only [Store.put]
      by_cases e1 : q = [30]
      · subst e1; simp
      · by_cases e2 : q = [4, 21]
        · subst e2; simp
        · simp [e1, e2]
  · have hje : j = k + 3 := by omega
    have hfin : val b = val b / V * V + r := by rw [hr]; have := Nat.div_add_mod (val b) V; rw [Nat.mul_comm] at this; omega
    have hUn : U = val A' + B32 ^ i * (val (val b / V :: o) * V + val (pad (k + 2) r)) := by
      rw [val_padded hrB]
      refine kd_round (x := y) (R := val R) (O := val o) ?_ (by rw [← hbv]; exact hfin)
      rw [hUe, val_append, hA']
      simp only [val, Nat.mul_zero, Nat.add_zero]
    have hep : A' ++ (pd.take j ++ b.drop j) ++ zs tl = A' ++ pad (k + 2) r ++ zs (tl + 1) := by
      rw [hje, List.take_of_length_le (by omega), List.drop_eq_nil_of_le (by omega), hpd, pad_top hrB]
      simp [zs_succ]
    rw [hep]
    simp only [SS, Nat.reduceAdd, reduceIte, hd2 hjt, hji]
    refine ⟨(i, A', pad (k + 2) r, tl + 1, val b / V :: o, _), ⟨by simp; omega, hA', pad_len _ _, by simp only []; omega, hA'W, pad_wd _ _, ?_, by simp only []; rw [val_padded hrB]; exact hmodV, hUn, by simp only []; omega⟩, Nat.lt_succ_self i, Wk.forget (by simp [Fg, List.replicate]) (fun q => ?_) (Nat.le_refl _)⟩
    · intro w hw
      rcases List.mem_cons.1 hw with rfl | hw
      · exact hDB
      · exact hoW w hw
    · right; simp
end
end Go.VL
end
