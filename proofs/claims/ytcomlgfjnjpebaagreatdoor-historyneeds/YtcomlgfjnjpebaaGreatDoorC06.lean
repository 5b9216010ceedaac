/- For the claim of HistoryNeeds: parts CI5, CI6, CI7, CI8, CI9, CI10, CI11, CI12, CI13, CI14, CI15, CI16, CI17, CI18, FD, CI19, CI20, CI21, CI22, CI23, KD, KE, VL31. -/
import Derived.Test.YtcomlgfjnjpebaaGreatDoorC05
import Derived.Laws.BitsAllLaws
set_option linter.unusedSimpArgs false
set_option linter.unusedVariables false
section
set_option linter.unusedSimpArgs false
namespace Go.VL
theorem us_replicate (c : Nat) : List.replicate c (AV.int .u32 0) = us (List.replicate c 0) := by simp [us]
theorem us_set (o : List Nat) (i x : Nat) : (us o).set i (.int .u32 (x : Int)) = us (o.set i x) := by simp [us, List.map_set]
theorem mkz_us {p : Id} {c : Nat} (h : c * 4 ≤ 140737488355328) : vmksl p 1 4 (.int .u32 0) (.int .i64 (c : Int)) (.int .i64 (c : Int)) = some { val := .osl p 1 0 c false, up := [(p, some ⟨us (List.replicate c 0), 1, false⟩)] } := by
  have hm := le_maxLen (n := c) (by omega)
  show (if (0 : Int) ≤ (c : Int) ∧ (c : Int) ≤ (c : Int) ∧ (c : Int) * ((4 : Nat) : Int) ≤ 140737488355328 ∧ (c : Int) ≤ ((maxLen : Nat) : Int) ∧ (AV.int IntKind.u32 0).size = 1 ∧ (AV.int IntKind.u32 0).cells.all AV.one = true then _ else none) = _
  rw [if_pos ⟨by omega, by omega, by omega, by omega, rfl, rfl⟩]
  simp only [Int.toNat_natCast, us_replicate]
theorem iaddr_own {q : Id} {len i : Nat} {t : Bool} (h : i < len) : viaddrS 1 (.osl q 1 0 len t) (.int .i64 (i : Int)) = some (.ref q i 0) := by
  simp only [viaddrS]
  rw [if_pos ⟨trivial, by omega, by omega⟩]
  simp
theorem store_us {σ : Store} {q : Id} {o : List Nat} {i x : Nat} (h : σ q = some ⟨us o, 1, false⟩) (hi : i < o.length) : vstore σ 1 (.ref q i 0) (.int .u32 (x : Int)) = some { val := .tup [], rd := [q], up := [(q, some ⟨us (o.set i x), 1, false⟩)] } := by
  obtain ⟨w, hw⟩ : ∃ w, o[i]? = some w := ⟨_, List.getElem?_eq_getElem hi⟩
  rw [vstore_at (n := 1) (v := .int .u32 (x : Int)) h (us_get hw) rfl (by simp [AV.size, AV.cells]) rfl, ← us_set]
  rfl
theorem load_us {σ : Store} {q : Id} {o : List Nat} {i x : Nat} {b : Bool} (h : σ q = some ⟨us o, 1, b⟩) (hi : o[i]? = some x) : vload σ false 1 (.ref q i 0) = some { val := .int .u32 (x : Int), rd := [q] } := by
  rw [vload_ref h (us_get hi)]; rfl
theorem set_pre (o : List Nat) (k x : Nat) : (o ++ List.replicate (k + 1) 0).set o.length x = (o ++ [x]) ++ List.replicate k 0 := by
  rw [List.set_append_right _ _ (Nat.le_refl _), Nat.sub_self, List.replicate_succ, List.set_cons_zero]
  simp
theorem val_set {o : List Nat} {i x y : Nat} (h : o[i]? = some y) : val (o.set i x) + B32 ^ i * y = val o + B32 ^ i * x := by
  have hi := (List.getElem?_eq_some_iff.1 h).1
  have ht : (o.take i).length = i := by rw [List.length_take]; omega
  have e1 : o = o.take i ++ y :: o.drop (i + 1) := by
    have := List.take_append_drop i o
    rw [List.drop_eq_getElem_cons hi] at this
    obtain ⟨_, h2⟩ := List.getElem?_eq_some_iff.1 h
    rw [h2] at this; exact this.symm
  have e2 : o.set i x = o.take i ++ x :: o.drop (i + 1) := by rw [List.set_eq_take_append_cons_drop, if_pos hi]
  rw [e2]
  have e3 : val o = val (o.take i ++ y :: o.drop (i + 1)) := congrArg val e1
  rw [e3, val_append, val_append, ht]
  simp only [val, Nat.mul_add]
  omega
theorem wd_set {o : List Nat} (h : Wd o) {i x : Nat} (hx : x < B32) : Wd (o.set i x) := fun w hw => by
  rcases List.mem_or_eq_of_mem_set hw with h1 | h1
  · exact h w h1
  · rw [h1]; exact hx
theorem wd_zeros (k : Nat) : Wd (List.replicate k 0) := fun w hw => by rw [List.eq_of_mem_replicate hw]; exact B32_pos
theorem val_pre (o : List Nat) (k : Nat) : val (o ++ List.replicate k 0) = val o := by
  rw [val_append, val_zeros (fun w hw => List.eq_of_mem_replicate hw)]; omega
theorem sub_step {x y c : Nat} (hx : x < B32) (hy : y < B32) (hc : c ≤ 1) : ∃ w c' : Nat, w < B32 ∧ c' ≤ 1 ∧ w + y + c = x + B32 * c' ∧ IntKind.u32.wrap (IntKind.u64.wrap (IntKind.u64.wrap ((x : Int) - (c : Int)) - (y : Int))) = (w : Int) ∧
    vbinq .shr .int (.int .u64 (IntKind.u64.wrap (IntKind.u64.wrap ((x : Int) - (c : Int)) - (y : Int)))) (.int .u64 63) = some (.int .u64 (c' : Int)) := by
  have hsh : ∀ a : Int, vbinq .shr .int (.int .u64 a) (.int .u64 63) = some (.int .u64 (a / 9223372036854775808)) := fun a => by
    rw [bin_shr (by decide)]
    show some (AV.int .u64 (a.fdiv (2 ^ 63))) = _
    rw [Int.fdiv_eq_ediv_of_nonneg _ (by decide)]; rfl
  rw [hsh]
  unfold B32 at *
  by_cases h : c + y ≤ x
  · refine ⟨x - c - y, 0, by omega, by omega, by omega, ?_, ?_⟩
    · rw [IntKind.wrap_u32, IntKind.wrap_u64, IntKind.wrap_u64]; omega
    · rw [IntKind.wrap_u64, IntKind.wrap_u64]; congr 2; omega
  · refine ⟨x + 4294967296 - c - y, 1, by omega, by omega, by omega, ?_, ?_⟩
    · rw [IntKind.wrap_u32, IntKind.wrap_u64, IntKind.wrap_u64]; omega
    · rw [IntKind.wrap_u64, IntKind.wrap_u64]; congr 2; omega
theorem sub_step0 {x c : Nat} (hx : x < B32) (hc : c ≤ 1) : ∃ w c' : Nat, w < B32 ∧ c' ≤ 1 ∧ w + 0 + c = x + B32 * c' ∧ IntKind.u32.wrap (IntKind.u64.wrap ((x : Int) - (c : Int))) = (w : Int) ∧
    vbinq .shr .int (.int .u64 (IntKind.u64.wrap ((x : Int) - (c : Int)))) (.int .u64 63) = some (.int .u64 (c' : Int)) := by
  obtain ⟨w, c', h1, h2, h3, h4, h5⟩ := sub_step (y := 0) hx B32_pos hc
  have e : IntKind.u64.wrap (IntKind.u64.wrap ((x : Int) - (c : Int)) - ((0 : Nat) : Int)) = IntKind.u64.wrap ((x : Int) - (c : Int)) := by rw [IntKind.wrap_u64, IntKind.wrap_u64]; omega
  rw [e] at h4 h5
  exact ⟨w, c', h1, h2, h3, h4, h5⟩
theorem diff_step {o : List Nat} {i c va vb x y w c' : Nat} (ho : o.length = i) (hv : val o + vb = va + B32 ^ i * c - B32 ^ i * c + B32 ^ i * c) (hw : w + y + c = x + B32 * c') : val (o ++ [w]) + (vb + B32 ^ i * y) = (va + B32 ^ i * x) + B32 ^ (i + 1) * c' := by
  have h : B32 ^ i * w + B32 ^ i * y + B32 ^ i * c = B32 ^ i * x + B32 ^ i * (B32 * c') := by rw [← Nat.mul_add, ← Nat.mul_add, ← Nat.mul_add, hw]
  rw [val_append, ho]
  simp only [val, Nat.mul_zero, Nat.add_zero, Nat.pow_succ]
  rw [Nat.mul_assoc]
  omega
section
variable {P : Program} {G : Nat → Option (List AV)}
theorem minus_ok {f ft : FuncId} (h : Has P f (w_integer_minus ft)) (ht : TrimC P G ft) (m n : Nat) (hnm : n ≤ m) (hm : wlen m ≤ 1000000) : VP P G f [W m, W n] (W (m - n)) := by
  refine VP.has h ?_
  have hle : wlen n ≤ wlen m := wlen_mono hnm
  have hmk : ∀ p : Id, vmksl p 1 4 (.int .u32 0) (.int .i64 (wlen m : Int)) (.int .i64 (wlen m : Int)) = some { val := .osl p 1 0 (wlen m) false, up := [(p, some ⟨us (List.replicate (wlen m) 0), 1, false⟩)] } := fun p => mkz_us (by omega)
  simp only [w_integer_minus, SS, Nat.reduceAdd, reduceIte, W_len, hmk, vwp_loop]
  refine VW.loopQ (α := Nat × Nat × List Nat × Nat) (fun x => ⟨[W m, W n, .top, .top, .top, .osl [3] 1 0 (wlen m) false, .int .u64 (x.2.2.2 : Int)] ++ List.replicate 6 .top ++ [W m, .int .i64 (wlen m), .int .i64 x.1] ++ List.replicate 29 .top,
    Store.put (fun _ => none) [3] (some ⟨us (x.2.2.1 ++ List.replicate (wlen m - x.1) 0), 1, false⟩), x.2.1⟩)
    (fun x => x.1 ≤ wlen m ∧ x.2.2.1.length = x.1 ∧ Wd x.2.2.1 ∧ x.2.2.2 ≤ 1 ∧ val x.2.2.1 + val ((digits n).take x.1) = val ((digits m).take x.1) + B32 ^ x.1 * x.2.2.2) (fun x => wlen m - x.1) (0, 9, [], 0) ?_ ?_ ?_
  · exact Wk.slots (by simp [Fg, List.replicate]) (Nat.le_refl _)
  · exact ⟨Nat.zero_le _, rfl, by intro w hw; simp at hw, by decide, by simp [val]⟩
  rintro ⟨i, nn, o, c⟩ ⟨hi, ho, hwd, hc, hv⟩
  simp only [] at hi ho hwd hc hv
  have hd1 : i < wlen m → decide ((i : Int) < (wlen m : Int)) = true := fun h => dec_true (by omega)
  have hd2 : ¬ i < wlen m → decide ((i : Int) < (wlen m : Int)) = false := fun h => dec_false (by omega)
  have hie : ¬ i < wlen m → i = wlen m := by omega
  have hwi := wrap_succ_i64 i (by omega)
  have hol : i < wlen m → i < (o ++ List.replicate (wlen m - i) 0).length := fun h => by rw [List.length_append, List.length_replicate]; omega
  have hset : i < wlen m → ∀ x, (o ++ List.replicate (wlen m - i) 0).set i x = (o ++ [x]) ++ List.replicate (wlen m - (i + 1)) 0 := fun h x => by
    rw [show wlen m - i = (wlen m - (i + 1)) + 1 from by omega, ← ho]; exact set_pre _ _ _
  have hs1 : i < wlen m → i + 1 ≤ wlen m ∧ wlen m - (i + 1) < wlen m - i := fun h => by omega
  have hny : ¬ i < wlen n → wlen n ≤ i := by omega
  have d3t : i < wlen n → decide ((i : Int) < (wlen n : Int)) = true := fun h => dec_true (by omega)
  have d3f : ¬ i < wlen n → decide ((i : Int) < (wlen n : Int)) = false := fun h => dec_false (by omega)
  simp only [SS, Nat.reduceAdd, reduceIte]
  by_cases hlt : i < wlen m
  · obtain ⟨a, ha⟩ : ∃ a, (digits m)[i]? = some a := ⟨_, List.getElem?_eq_getElem hlt⟩
    have haw := digits_wd m a (List.mem_of_getElem? ha)
    have f1 := w64_word a haw
    have hia := iaddr_own (q := [3]) (t := false) hlt
    by_cases hy : i < wlen n
    · obtain ⟨b, hb⟩ : ∃ b, (digits n)[i]? = some b := ⟨_, List.getElem?_eq_getElem hy⟩
      have hbw := digits_wd n b (List.mem_of_getElem? hb)
      have f3 := w64_word b hbw
      obtain ⟨w, c', h1, h2, h3, h4, h5⟩ := sub_step haw hbw hc
      have hv' := diff_step (va := val ((digits m).take i)) (vb := val ((digits n).take i)) ho (by rw [hv]; omega) h3
      simp only [SS, Nat.reduceAdd, reduceIte, hd1 hlt, W_get ha, W_get hb, W_len, vload_ep, part_int, f1, f3, d3t hy, h4, hia]
      rw [store_us (o := o ++ List.replicate (wlen m - i) 0) (by simp [Store.put]) (hol hlt), hset hlt]
      simp only [SS, Nat.reduceAdd, reduceIte, h5, hwi]
      refine ⟨(i + 1, _, o ++ [w], c'), ⟨(hs1 hlt).1, by simp [ho], wd_append hwd (by intro z hz; simp at hz; subst hz; exact h1), h2, ?_⟩, (hs1 hlt).2, Wk.forget (by simp [Fg, List.replicate]) (fun j => ?_) (Nat.le_refl _)⟩
      · show val (o ++ [w]) + val ((digits n).take (i + 1)) = _
        rw [val_take_succ ha, val_take_succ hb]; exact hv'
      · simp only [Store.put]; split <;> simp
    · obtain ⟨w, c', h1, h2, h3, h4, h5⟩ := sub_step0 haw hc
      have hv' := diff_step (va := val ((digits m).take i)) (vb := val ((digits n).take i)) ho (by rw [hv]; omega) h3
      simp only [SS, Nat.reduceAdd, reduceIte, hd1 hlt, W_get ha, W_len, vload_ep, part_int, f1, d3f hy, h4, hia]
      rw [store_us (o := o ++ List.replicate (wlen m - i) 0) (by simp [Store.put]) (hol hlt), hset hlt]
      simp only [SS, Nat.reduceAdd, reduceIte, h5, hwi]
      refine ⟨(i + 1, _, o ++ [w], c'), ⟨(hs1 hlt).1, by simp [ho], wd_append hwd (by intro z hz; simp at hz; subst hz; exact h1), h2, ?_⟩, (hs1 hlt).2, Wk.forget (by simp [Fg, List.replicate]) (fun j => ?_) (Nat.le_refl _)⟩
      · show val (o ++ [w]) + val ((digits n).take (i + 1)) = _
        rw [val_take_succ ha, val_take_past (hny hy)]
        simpa using hv'
      · simp only [Store.put]; split <;> simp
  · have hiw := hie hlt
    have e1 : (digits m).take (wlen m) = digits m := List.take_of_length_le (Nat.le_refl _)
    have e2 : (digits n).take (wlen m) = digits n := List.take_of_length_le hle
    have hsum : val o + n = m + B32 ^ wlen m * c := by rw [hiw, e1, e2, val_digits, val_digits] at hv; exact hv
    have hvo : val o = m - n := by
      have := val_lt hwd
      rw [ho, hiw] at this
      rcases Nat.le_one_iff_eq_zero_or_eq_one.1 hc with h0 | h0
      · rw [h0] at hsum; omega
      · rw [h0] at hsum; omega
    have e3 : o ++ List.replicate (wlen m - i) 0 = o := by rw [hiw, Nat.sub_self]; simp
    have ht' := ht o hwd (by rw [ho]; omega)
    rw [hvo] at ht'
    simp only [SS, Nat.reduceAdd, reduceIte, hd2 hlt, e3]
    refine vsCall_view [([3], ⟨us o, 1, false⟩)] ht' (ViewL.cons (view_us (by rw [ho, hiw])) ViewL.nil) (by simp [Store.put]) ?_
    simp only [SS, Nat.reduceAdd, reduceIte]
    exact retQ_ret ▸ retQ_of_pure rfl (W_pure _)
end
end Go.VL
end

section
set_option linter.unusedSimpArgs false
namespace Go.VL
theorem mul64 (a b : Nat) (ha : a < B32) (hb : b < B32) : IntKind.u64.wrap ((a : Int) * (b : Int)) = ((a * b : Nat) : Int) := by
  have : a * b ≤ 4294967295 * 4294967295 := Nat.mul_le_mul (by unfold B32 at ha; omega) (by unfold B32 at hb; omega)
  rw [← Int.natCast_mul, IntKind.wrap_u64]; omega
theorem mul_le {a b : Nat} (ha : a < B32) (hb : b < B32) : a * b ≤ 18446744065119617025 := by
  have : a * b ≤ 4294967295 * 4294967295 := Nat.mul_le_mul (by unfold B32 at ha; omega) (by unfold B32 at hb; omega)
  omega
theorem add_i64 (a b : Nat) (h : a + b ≤ 9223372036854775807) : IntKind.i64.wrap ((a : Int) + (b : Int)) = ((a + b : Nat) : Int) := by rw [IntKind.wrap_i64]; omega
theorem zero_above {o : List Nat} {k y : Nat} (h : val o < B32 ^ k) (hy : o[k]? = some y) : y = 0 := by
  have := val_set (x := 0) hy
  rcases Nat.eq_zero_or_pos y with h0 | h0
  · exact h0
  · have : B32 ^ k * 1 ≤ B32 ^ k * y := Nat.mul_le_mul_left _ h0
    omega
theorem prod_step {o o' : List Nat} {i j c x y z s v : Nat} (hz : o'[i + j]? = some z) (hv : val o' + B32 ^ (i + j) * c = val o + B32 ^ i * (x * v)) (hs : s = c + (x * y + z)) :
    val (o'.set (i + j) (s % B32)) + B32 ^ (i + (j + 1)) * (s / B32) = val o + B32 ^ i * (x * (v + B32 ^ j * y)) := by
  have e1 := val_set (x := s % B32) hz
  have e2 : B32 ^ (i + j) * (s % B32) + B32 ^ (i + j) * (B32 * (s / B32)) = B32 ^ (i + j) * c + B32 ^ (i + j) * (x * y) + B32 ^ (i + j) * z := by
    rw [← Nat.mul_add, Nat.mod_add_div, hs, Nat.mul_add, Nat.mul_add]; omega
  have e3 : B32 ^ (i + (j + 1)) * (s / B32) = B32 ^ (i + j) * (B32 * (s / B32)) := by rw [← Nat.add_assoc, Nat.pow_succ, Nat.mul_assoc]
  have e4 : B32 ^ i * (x * (v + B32 ^ j * y)) = B32 ^ i * (x * v) + B32 ^ (i + j) * (x * y) := by
    rw [Nat.mul_add, Nat.mul_add, Nat.pow_add]
    congr 1
    rw [Nat.mul_assoc, Nat.mul_left_comm x]
  rw [e3, e4]
  omega
theorem wlen_pos_iff {n : Nat} : wlen n = 0 ↔ n = 0 := by
  constructor
  · intro h; exact digits_eq_nil.1 (List.length_eq_zero_iff.1 h)
  · intro h; rw [h, wlen, digits_zero]; rfl
section
variable {P : Program} {G : Nat → Option (List AV)}
theorem times_ok {f ft : FuncId} (h : Has P f (w_integer_times ft)) (ht : TrimC P G ft) (m n : Nat) (hm : wlen m ≤ 1000000) (hn : wlen n ≤ 1000000) : VP P G f [W m, W n] (W (m * n)) := by
  refine VP.has h ?_
  have z1 : wlen m = 0 → decide ((wlen m : Int) = 0) = true := fun h => dec_true (by omega)
  have z2 : ¬ wlen m = 0 → decide ((wlen m : Int) = 0) = false := fun h => dec_false (by omega)
  have z3 : wlen n = 0 → decide ((wlen n : Int) = 0) = true := fun h => dec_true (by omega)
  have z4 : ¬ wlen n = 0 → decide ((wlen n : Int) = 0) = false := fun h => dec_false (by omega)
  have hnil : m * n = 0 → ∀ σ, View σ .nils (W (m * n)) := fun h σ => by rw [h]; simp only [W, digits_zero, us]; exact View.nils 1
  have hmk : ∀ p : Id, vmksl p 1 4 (.int .u32 0) (.int .i64 ((wlen m + wlen n : Nat) : Int)) (.int .i64 ((wlen m + wlen n : Nat) : Int)) = some { val := .osl p 1 0 (wlen m + wlen n) false, up := [(p, some ⟨us (List.replicate (wlen m + wlen n) 0), 1, false⟩)] } := fun p => mkz_us (by omega)
  have hL := add_i64 (wlen m) (wlen n) (by omega)
  simp only [w_integer_times, SS, Nat.reduceAdd, reduceIte, W_len]
  by_cases h0 : wlen m = 0
  · simp only [SS, Nat.reduceAdd, reduceIte, z1 h0]
    refine retQ_ret ▸ ⟨.nils, rfl, hnil (by rw [wlen_pos_iff.1 h0]; simp) _⟩
  by_cases h1 : wlen n = 0
  · simp only [SS, Nat.reduceAdd, reduceIte, z2 h0, z3 h1, W_len]
    refine retQ_ret ▸ ⟨.nils, rfl, hnil (by rw [wlen_pos_iff.1 h1]; simp) _⟩
  simp only [SS, Nat.reduceAdd, reduceIte, z2 h0, z4 h1, W_len, hL, hmk, vwp_loop]
  refine VW.loopQ (α := Nat × Nat × List Nat) (fun x => ⟨[W m, W n, .top, .top, .top, .osl [14] 1 0 (wlen m + wlen n) false] ++ List.replicate 19 .top ++ [W m, .int .i64 (wlen m), .int .i64 x.1] ++ List.replicate 47 .top,
    Store.put (fun _ => none) [14] (some ⟨us x.2.2, 1, false⟩), x.2.1⟩)
    (fun x => x.1 ≤ wlen m ∧ x.2.2.length = wlen m + wlen n ∧ Wd x.2.2 ∧ val x.2.2 = val ((digits m).take x.1) * n) (fun x => wlen m - x.1) (0, 19, List.replicate (wlen m + wlen n) 0) ?_ ?_ ?_
  · exact Wk.slots (by simp [Fg, List.replicate]) (Nat.le_refl _)
  · exact ⟨Nat.zero_le _, List.length_replicate .., wd_zeros _, by simp only []; rw [val_zeros (fun w hw => List.eq_of_mem_replicate hw)]; simp [val]⟩
  rintro ⟨i, nn, o⟩ ⟨hi, ho, hwd, hv⟩
  simp only [] at hi ho hwd hv
  have hd1 : i < wlen m → decide ((i : Int) < (wlen m : Int)) = true := fun h => dec_true (by omega)
  have hd2 : ¬ i < wlen m → decide ((i : Int) < (wlen m : Int)) = false := fun h => dec_false (by omega)
  have hie : ¬ i < wlen m → i = wlen m := by omega
  have hwi := wrap_succ_i64 i (by omega)
  have hs1 : i < wlen m → i + 1 ≤ wlen m ∧ wlen m - (i + 1) < wlen m - i := fun h => by omega
  have hin := add_i64 i (wlen n) (by omega)
  have hina : i < wlen m → i + wlen n < wlen m + wlen n := fun h => by omega
  simp only [SS, Nat.reduceAdd, reduceIte]
  by_cases hlt : i < wlen m
  · obtain ⟨a, ha⟩ : ∃ a, (digits m)[i]? = some a := ⟨_, List.getElem?_eq_getElem hlt⟩
    have haw := digits_wd m a (List.mem_of_getElem? ha)
    have f1 := w64_word a haw
    have hz0 : o[i + wlen n]? = some 0 := by
      obtain ⟨y, hy⟩ : ∃ y, o[i + wlen n]? = some y := ⟨_, List.getElem?_eq_getElem (by rw [ho]; exact hina hlt)⟩
      have e := zero_above (k := i + wlen n) (by
        rw [hv, Nat.pow_add]
        have h2 : val ((digits m).take i) < B32 ^ i := by
          have := val_lt (wd_take (digits_wd m) i)
          rwa [List.length_take, Nat.min_eq_left (show i ≤ (digits m).length from Nat.le_of_lt hlt)] at this
        exact Nat.mul_lt_mul'' h2 (lt_pow_wlen n)) hy
      rw [e] at hy; exact hy
    simp only [SS, Nat.reduceAdd, reduceIte, hd1 hlt, W_get ha, W_len, vload_ep, part_int, vwp_loop]
    refine VW.loopQ (α := Nat × Nat × List Nat × Nat) (fun x => ⟨[W m, W n, .top, .top, .top, .osl [14] 1 0 (wlen m + wlen n) false, .int .i64 i, .int .u32 a, .int .u64 (x.2.2.2 : Int)] ++ List.replicate 16 .top ++ [W m, .int .i64 (wlen m), .int .i64 i] ++ List.replicate 4 .top ++ [W n, .int .i64 (wlen n), .int .i64 x.1] ++ List.replicate 40 .top,
      Store.put (fun _ => none) [14] (some ⟨us x.2.2.1, 1, false⟩), x.2.1⟩)
      (fun x => x.1 ≤ wlen n ∧ x.2.2.1.length = wlen m + wlen n ∧ Wd x.2.2.1 ∧ x.2.2.2 < B32 ∧ x.2.2.1[i + wlen n]? = some 0 ∧ val x.2.2.1 + B32 ^ (i + x.1) * x.2.2.2 = val o + B32 ^ i * (a * val ((digits n).take x.1))) (fun x => wlen n - x.1) (0, nn + 10, o, 0) ?_ ?_ ?_
    · exact Wk.slots (by simp [Fg, List.replicate]) (by simp only []; omega)
    · exact ⟨Nat.zero_le _, ho, hwd, B32_pos, hz0, by simp [val]⟩
    rintro ⟨j, mm, o', c⟩ ⟨hj, ho', hwd', hc, hz, hv'⟩
    simp only [] at hj ho' hwd' hc hz hv'
    have hd3 : j < wlen n → decide ((j : Int) < (wlen n : Int)) = true := fun h => dec_true (by omega)
    have hd4 : ¬ j < wlen n → decide ((j : Int) < (wlen n : Int)) = false := fun h => dec_false (by omega)
    have hje : ¬ j < wlen n → j = wlen n := by omega
    have hwj := wrap_succ_i64 j (by omega)
    have hs2 : j < wlen n → j + 1 ≤ wlen n ∧ wlen n - (j + 1) < wlen n - j := fun h => by omega
    have hij := add_i64 i j (by omega)
    have hija : j < wlen n → i + j < wlen m + wlen n := fun h => by omega
    have hne : j < wlen n → i + j ≠ i + wlen n := fun h => by omega
    simp only [SS, Nat.reduceAdd, reduceIte]
    by_cases hjt : j < wlen n
    · obtain ⟨b, hb⟩ : ∃ b, (digits n)[j]? = some b := ⟨_, List.getElem?_eq_getElem hjt⟩
      have hbw := digits_wd n b (List.mem_of_getElem? hb)
      have f2 := w64_word b hbw
      obtain ⟨z, hzz⟩ : ∃ z, o'[i + j]? = some z := ⟨_, List.getElem?_eq_getElem (by rw [ho']; exact hija hjt)⟩
      have hzw := hwd' z (List.mem_of_getElem? hzz)
      have f3 := w64_word z hzw
      have f4 := mul64 a b haw hbw
      have hle := mul_le haw hbw
      have f5 := add64 (a * b) z (by unfold B32 at hzw; omega)
      have f6 := add64 c (a * b + z) (by unfold B32 at hzw hc; omega)
      have hc' : (c + (a * b + z)) / B32 < B32 := by unfold B32 at hzw hc ⊢; omega
      have hia := iaddr_own (q := [14]) (t := false) (hija hjt)
      have hst := prod_step hzz hv' (rfl : c + (a * b + z) = c + (a * b + z))
      simp only [SS, Nat.reduceAdd, reduceIte, hd3 hjt, W_get hb, W_len, vload_ep, part_int, f1, f2, f4, hij, hia]
      rw [load_us (o := o') (b := false) (by simp [Store.put]) hzz]
      simp only [SS, Nat.reduceAdd, reduceIte, f3, f5, f6, w32, hij, hia]
      rw [store_us (o := o') (by simp [Store.put]) (by rw [ho']; exact hija hjt)]
      simp only [SS, Nat.reduceAdd, reduceIte, shr32, hwj]
      refine ⟨(j + 1, _, o'.set (i + j) ((c + (a * b + z)) % B32), (c + (a * b + z)) / B32), ⟨(hs2 hjt).1, by simp [ho'], wd_set hwd' (Nat.mod_lt _ B32_pos), hc', ?_, ?_⟩, (hs2 hjt).2, Wk.forget (by simp [Fg, List.replicate]) (fun j => ?_) (Nat.le_refl _)⟩
      · rw [List.getElem?_set_ne (hne hjt)]; exact hz
      · show _ = val o + B32 ^ i * (a * val ((digits n).take (j + 1)))
        rw [val_take_succ hb]; exact hst
      · simp only [Store.put]; split <;> simp
    · have hjw := hje hjt
      have hia := iaddr_own (q := [14]) (t := false) (hina hlt)
      have f7 : IntKind.u32.wrap (c : Int) = (c : Int) := by rw [w32, Nat.mod_eq_of_lt hc]
      have hval : val (o'.set (i + wlen n) c) = val ((digits m).take (i + 1)) * n := by
        have e := val_set (x := c) hz
        have e2 : (digits n).take (wlen n) = digits n := List.take_of_length_le (Nat.le_refl _)
        rw [hjw, e2, val_digits, hv] at hv'
        rw [val_take_succ ha, Nat.add_mul]
        have e3 : B32 ^ i * a * n = B32 ^ i * (a * n) := Nat.mul_assoc _ _ _
        omega
      simp only [SS, Nat.reduceAdd, reduceIte, hd4 hjt, W_len, hin, f7, hia]
      rw [store_us (o := o') (by simp [Store.put]) (by rw [ho']; exact hina hlt)]
      simp only [SS, Nat.reduceAdd, reduceIte, hwi]
      refine ⟨(i + 1, _, o'.set (i + wlen n) c), ⟨(hs1 hlt).1, by simp [ho'], wd_set hwd' hc, hval⟩, (hs1 hlt).2, Wk.forget (by simp [Fg, List.replicate]) (fun j => ?_) (Nat.le_refl _)⟩
      simp only [Store.put]; split <;> simp
  · have hiw := hie hlt
    have e1 : (digits m).take (wlen m) = digits m := List.take_of_length_le (Nat.le_refl _)
    have hvo : val o = m * n := by rw [hv, hiw, e1, val_digits]
    have ht' := ht o hwd (by rw [ho]; omega)
    rw [hvo] at ht'
    simp only [SS, Nat.reduceAdd, reduceIte, hd2 hlt]
    refine vsCall_view [([14], ⟨us o, 1, false⟩)] ht' (ViewL.cons (view_us ho.symm) ViewL.nil) (by simp [Store.put]) ?_
    simp only [SS, Nat.reduceAdd, reduceIte]
    exact retQ_ret ▸ retQ_of_pure rfl (W_pure _)
end
end Go.VL
end

section
set_option linter.unusedSimpArgs false
namespace Go.VL
theorem bin_or {k : IntKind} {a b : Int} : vbinq .or .int (.int k a) (.int k b) = some (.int k (k.wrap (BitVec.ofInt k.bits a ||| BitVec.ofInt k.bits b).toNat)) := by
  simp only [vbinq]; rw [show vbin .or .int (.int k a) (.int k b) = some (.int k (k.wrap (BitVec.ofInt k.bits a ||| BitVec.ofInt k.bits b).toNat)) from by simp [vbin, vint, bitsOf]]
theorem or64 (a b : Nat) (ha : a < 18446744073709551616) (hb : b < 18446744073709551616) : vbinq .or .int (.int .u64 (a : Int)) (.int .u64 (b : Int)) = some (.int .u64 ((a ||| b : Nat) : Int)) := by
  have hx : a ||| b < 2 ^ 64 := Nat.or_lt_two_pow (by omega) (by omega)
  have h1 : (BitVec.ofInt 64 (a : Int)).toNat = a := by
    rw [BitVec.ofInt_natCast, BitVec.toNat_ofNat]; exact Nat.mod_eq_of_lt (by omega)
  have h2 : (BitVec.ofInt 64 (b : Int)).toNat = b := by
    rw [BitVec.ofInt_natCast, BitVec.toNat_ofNat]; exact Nat.mod_eq_of_lt (by omega)
  rw [bin_or]
  show some (AV.int .u64 (IntKind.u64.wrap ((BitVec.ofInt 64 (a : Int) ||| BitVec.ofInt 64 (b : Int)).toNat : Int))) = _
  rw [BitVec.toNat_or, h1, h2, w64 _ (by omega)]
theorem or32 (a b : Nat) (ha : a < B32) (hb : b < B32) : vbinq .or .int (.int .u32 (a : Int)) (.int .u32 (b : Int)) = some (.int .u32 ((a ||| b : Nat) : Int)) := by
  unfold B32 at ha hb
  have hx : a ||| b < 2 ^ 32 := Nat.or_lt_two_pow (by omega) (by omega)
  have h1 : (BitVec.ofInt 32 (a : Int)).toNat = a := by
    rw [BitVec.ofInt_natCast, BitVec.toNat_ofNat]; exact Nat.mod_eq_of_lt (by omega)
  have h2 : (BitVec.ofInt 32 (b : Int)).toNat = b := by
    rw [BitVec.ofInt_natCast, BitVec.toNat_ofNat]; exact Nat.mod_eq_of_lt (by omega)
  rw [bin_or]
  show some (AV.int .u32 (IntKind.u32.wrap ((BitVec.ofInt 32 (a : Int) ||| BitVec.ofInt 32 (b : Int)).toNat : Int))) = _
  rw [BitVec.toNat_or, h1, h2, w32, Nat.mod_eq_of_lt (by unfold B32; omega)]
theorem or_hi (a b : Nat) (ha : a < B32) (hb : b < B32) : vbinq .or .int (.int .u64 ((B32 * a : Nat) : Int)) (.int .u64 (b : Int)) = some (.int .u64 ((B32 * a + b : Nat) : Int)) := by
  rw [or64 _ _ (by unfold B32 at *; omega) (by unfold B32 at *; omega)]
  have := Nat.two_pow_add_eq_or_of_lt (i := 32) (b := b) (by unfold B32 at hb; omega) a
  rw [show B32 = 2 ^ 32 from rfl, this]
theorem shl_hi (a : Nat) (ha : a < B32) : vbinq .shl .int (.int .u64 (a : Int)) (.int .u64 32) = some (.int .u64 ((B32 * a : Nat) : Int)) := by
  rw [bin_shl (by decide)]
  have : IntKind.u64.wrap ((a : Int) * 2 ^ (min (32 : Int).toNat IntKind.u64.bits)) = ((B32 * a : Nat) : Int) := by
    show IntKind.u64.wrap ((a : Int) * 2 ^ 32) = _
    rw [IntKind.wrap_u64]; unfold B32 at *; omega
  rw [this]
theorem quo64 (a b : Nat) (ha : a < 18446744073709551616) (hb : b ≠ 0) : vbinq .quo .int (.int .u64 (a : Int)) (.int .u64 (b : Int)) = some (.int .u64 ((a / b : Nat) : Int)) := by
  rw [bin_quo (by omega)]
  show some (AV.int .u64 (IntKind.u64.wrap ((a / b : Nat) : Int))) = _
  rw [w64 _ (Nat.lt_of_le_of_lt (Nat.div_le_self _ _) ha)]
theorem rem64 (a b : Nat) (hb : b ≠ 0) : vbinq .rem .int (.int .u64 (a : Int)) (.int .u64 (b : Int)) = some (.int .u64 ((a % b : Nat) : Int)) := by
  rw [bin_rem (by omega)]; rfl
def zs (k : Nat) : List Nat := List.replicate k 0
theorem zs_zero : zs 0 = [] := rfl
theorem set_post (q : List Nat) (j x : Nat) : (zs (j + 1) ++ q).set j x = zs j ++ x :: q := by
  unfold zs
  rw [List.replicate_succ', List.append_assoc, List.set_append_right _ _ (by simp)]
  simp
section
variable {P : Program} {G : Nat → Option (List AV)}
theorem divideWord_ok {f ft fu : FuncId} (h : Has P f (w_integer_divideWord ft fu)) (ht : TrimC P G ft) (hu : ∀ n, n < 18446744073709551616 → VP P G fu [.int .u64 ((n : Nat) : Int)] (W n)) (m w : Nat) (hm : wlen m ≤ 1000000) (hw : w < B32) (hw0 : w ≠ 0) :
    VP P G f [W m, .int .u32 (w : Int)] (.tup [W (m / w), W (m % w)]) := by
  refine VP.has h ?_
  have hmk : ∀ p : Id, vmksl p 1 4 (.int .u32 0) (.int .i64 (wlen m : Int)) (.int .i64 (wlen m : Int)) = some { val := .osl p 1 0 (wlen m) false, up := [(p, some ⟨us (List.replicate (wlen m) 0), 1, false⟩)] } := fun p => mkz_us (by omega)
  have hwL : IntKind.i64.wrap ((wlen m : Int) - 1) = (wlen m : Int) - 1 := by rw [IntKind.wrap_i64]; omega
  have f0 := w64_word w hw
  have hwz : ((w : Nat) : Int) ≠ 0 := by omega
  simp only [w_integer_divideWord, SS, Nat.reduceAdd, reduceIte, W_len, hmk, hwL, vwp_loop]
  refine VW.loopQ (α := Nat × Nat × List Nat × Nat) (fun x => ⟨[W m, .int .u32 (w : Int), .top, .top, .top, .top, .osl [4] 1 0 (wlen m) false, .int .u64 (x.2.2.2 : Int), .int .i64 ((x.1 : Int) - 1)] ++ List.replicate 34 .top,
    Store.put (fun _ => none) [4] (some ⟨us (zs x.1 ++ x.2.2.1), 1, false⟩), x.2.1⟩)
    (fun x => x.1 + x.2.2.1.length = wlen m ∧ Wd x.2.2.1 ∧ x.2.2.2 < w ∧ val ((digits m).drop x.1) = val x.2.2.1 * w + x.2.2.2) (fun x => x.1) (wlen m, 11, [], 0) ?_ ?_ ?_
  · rw [List.append_nil]; exact Wk.slots (by simp [Fg, List.replicate]) (Nat.le_refl _)
  · refine ⟨by simp, by intro w hw; simp at hw, Nat.pos_of_ne_zero hw0, ?_⟩
    show val ((digits m).drop (wlen m)) = _
    rw [List.drop_eq_nil_of_le (show (digits m).length ≤ wlen m from Nat.le_refl _)]; simp [val]
  rintro ⟨k, nn, q, r⟩ ⟨hk, hwd, hr, hv⟩
  simp only [] at hk hwd hr hv
  by_cases h0 : k = 0
  · subst h0
    have d0 : decide ((0 : Int) ≤ ((0 : Nat) : Int) - 1) = false := by decide
    have e : m / w = val q ∧ m % w = r := by
      rw [List.drop_zero, val_digits] at hv
      refine (Nat.div_mod_unique (Nat.pos_of_ne_zero hw0)).2 ⟨?_, hr⟩
      rw [hv, Nat.mul_comm w]; omega
    have ht' := ht q hwd (by omega)
    rw [← e.1] at ht'
    have hu' := hu r (by unfold B32 at hw; omega)
    have hq : wlen m = q.length := by omega
    simp only [SS, Nat.reduceAdd, reduceIte, d0, zs_zero, List.nil_append]
    refine vsCall_view [([4], ⟨us q, 1, false⟩)] ht' (ViewL.cons (view_us hq) ViewL.nil) (by simp [Store.put]) ?_
    simp only [SS, Nat.reduceAdd, reduceIte]
    refine vsCall_VP hu' (by simp [PureAV.int]) ?_
    simp only [SS, Nat.reduceAdd, reduceIte]
    rw [e.2]
    exact retQ_ret ▸ retQ_of_pure rfl (PureAV.tup (by intro c hc; simp at hc; rcases hc with rfl | rfl <;> exact W_pure _))
  · obtain ⟨j, rfl⟩ : ∃ j, k = j + 1 := ⟨k - 1, by omega⟩
    have d0 : decide ((0 : Int) ≤ (j : Int)) = true := dec_true (by omega)
    have hj : ((j + 1 : Nat) : Int) - 1 = (j : Int) := by omega
    have hjl : j < wlen m := by omega
    have hwj : IntKind.i64.wrap ((j : Int) - 1) = (j : Int) - 1 := by rw [IntKind.wrap_i64]; omega
    obtain ⟨a, ha⟩ : ∃ a, (digits m)[j]? = some a := ⟨_, List.getElem?_eq_getElem hjl⟩
    have haw := digits_wd m a (List.mem_of_getElem? ha)
    have f1 := w64_word a haw
    have hrB : r < B32 := by omega
    have f2 := shl_hi r hrB
    have f3 := or_hi r a hrB haw
    have hlt : B32 * r + a < 18446744073709551616 := by unfold B32 at *; omega
    have f4 := quo64 (B32 * r + a) w hlt hw0
    have f5 := rem64 (B32 * r + a) w hw0
    have hqlt : (B32 * r + a) / w < B32 := by
      rw [Nat.div_lt_iff_lt_mul (Nat.pos_of_ne_zero hw0)]
      have : B32 * (r + 1) ≤ B32 * w := Nat.mul_le_mul_left _ hr
      rw [Nat.mul_add] at this
      omega
    have f6 : IntKind.u32.wrap (((B32 * r + a) / w : Nat) : Int) = (((B32 * r + a) / w : Nat) : Int) := by rw [w32, Nat.mod_eq_of_lt hqlt]
    have hia := iaddr_own (q := [4]) (t := false) hjl
    have hol : j < (zs (j + 1) ++ q).length := by simp [zs]; omega
    have hv' : val ((digits m).drop j) = val ((B32 * r + a) / w :: q) * w + (B32 * r + a) % w := by
      rw [List.drop_eq_getElem_cons (show j < (digits m).length from hjl)]
      obtain ⟨_, h2⟩ := List.getElem?_eq_some_iff.1 ha
      rw [h2]
      simp only [val]
      rw [hv, Nat.add_mul, Nat.mul_add, Nat.mul_assoc B32]
      have := Nat.div_add_mod (B32 * r + a) w
      rw [Nat.mul_comm] at this
      omega
    have hkl : j + ((B32 * r + a) / w :: q).length = wlen m := by simp; omega
    simp only [SS, Nat.reduceAdd, reduceIte, d0, hj, W_get ha, vload_ep, part_int, f0, f1, f2, f3, f4, f5, f6, hia]
    rw [store_us (o := zs (j + 1) ++ q) (by simp [Store.put]) hol, set_post]
    simp only [SS, Nat.reduceAdd, reduceIte, f0, f5, hwj]
    refine ⟨(j, _, (B32 * r + a) / w :: q, (B32 * r + a) % w), ⟨hkl, ?_, Nat.mod_lt _ (Nat.pos_of_ne_zero hw0), hv'⟩, Nat.lt_succ_self j, Wk.forget (by simp [Fg, List.replicate]) (fun j => ?_) (Nat.le_refl _)⟩
    · intro z hz
      rcases List.mem_cons.1 hz with rfl | hz
      · exact hqlt
      · exact hwd z hz
    · simp only [Store.put]; split <;> simp
end
end Go.VL
end

section
set_option linter.unusedSimpArgs false
namespace Go.VL
def pad : Nat → Nat → List Nat
  | 0, _ => []
  | k + 1, n => n % B32 :: pad k (n / B32)
theorem pad_len (k n : Nat) : (pad k n).length = k := by
  induction k generalizing n with
  | zero => rfl
  | succ k ih => simp [pad, ih]
theorem pad_wd (k n : Nat) : Wd (pad k n) := by
  induction k generalizing n with
  | zero => intro w hw; simp [pad] at hw
  | succ k ih =>
    intro w hw
    rcases List.mem_cons.1 hw with rfl | hw
    · exact Nat.mod_lt _ B32_pos
    · exact ih _ w hw
theorem pad_of {o : List Nat} (h : Wd o) : pad o.length (val o) = o := by
  induction o with
  | nil => rfl
  | cons w o ih =>
    have hw := h w List.mem_cons_self
    simp only [List.length_cons, pad, val]
    rw [Nat.add_mul_mod_self_left, Nat.mod_eq_of_lt hw, Nat.add_mul_div_left _ _ B32_pos, Nat.div_eq_of_lt hw, Nat.zero_add, ih fun z hz => h z (List.mem_cons_of_mem _ hz)]
theorem val_padded {k n : Nat} (h : n < B32 ^ k) : val (pad k n) = n := by
  induction k generalizing n with
  | zero => simp at h; simp [pad, val, h]
  | succ k ih =>
    simp only [pad, val]
    rw [ih (by rw [Nat.div_lt_iff_lt_mul B32_pos]; rwa [Nat.pow_succ] at h), Nat.mod_add_div]
theorem zs_wd (k : Nat) : Wd (zs k) := wd_zeros k
theorem zs_succ (k : Nat) : zs (k + 1) = 0 :: zs k := rfl
theorem get_mid (o : List Nat) (c : Nat) (t : List Nat) {i : Nat} (h : o.length = i) : (o ++ c :: t)[i]? = some c := by subst h; simp
theorem set_mid (o : List Nat) (c : Nat) (t : List Nat) {i : Nat} (x : Nat) (h : o.length = i) : (o ++ c :: t).set i x = o ++ x :: t := by
  subst h; rw [List.set_append_right _ _ (Nat.le_refl _), Nat.sub_self, List.set_cons_zero]
theorem set_mid1 (o : List Nat) (c d : Nat) (t : List Nat) {i : Nat} (x : Nat) (h : o.length = i) : (o ++ c :: d :: t).set (i + 1) x = (o ++ [c]) ++ x :: t := by
  have e : o ++ c :: d :: t = (o ++ [c]) ++ d :: t := by simp
  rw [e]; exact set_mid _ _ _ _ (by simp [h])
theorem two_split {s : Nat} (hs : s ≤ 32) : 2 ^ (32 - s) * 2 ^ s = B32 := by
  rw [← Nat.pow_add, Nat.sub_add_cancel hs]; rfl
theorem shl_step {x c s : Nat} (hs : s ≤ 32) (hc : c < 2 ^ s) (hx : x < B32) : c ||| ((x * 2 ^ s) % B32) = c + (x * 2 ^ s) % B32 ∧ c + (x * 2 ^ s) % B32 < B32 ∧ (x * 2 ^ s) / B32 < 2 ^ s := by
  have hB := two_split hs
  have e : (x * 2 ^ s) % B32 = 2 ^ s * (x % 2 ^ (32 - s)) := by rw [← hB, Nat.mul_mod_mul_right, Nat.mul_comm]
  have hlt : x % 2 ^ (32 - s) < 2 ^ (32 - s) := Nat.mod_lt _ (Nat.two_pow_pos _)
  have h1 : 2 ^ s * (x % 2 ^ (32 - s) + 1) ≤ 2 ^ s * 2 ^ (32 - s) := Nat.mul_le_mul_left _ hlt
  rw [Nat.mul_add, Nat.mul_comm (2 ^ s) (2 ^ (32 - s)), hB] at h1
  refine ⟨?_, by rw [e]; omega, ?_⟩
  · rw [e, Nat.or_comm, ← Nat.two_pow_add_eq_or_of_lt hc, Nat.add_comm]
  · rw [Nat.div_lt_iff_lt_mul B32_pos, Nat.mul_comm]
    exact Nat.mul_lt_mul_of_pos_left hx (Nat.two_pow_pos _)
theorem shl64 (x s : Nat) (hs : s ≤ 32) (hx : x < B32) : vbinq .shl .int (.int .u64 (x : Int)) (.int .i64 (s : Int)) = some (.int .u64 ((x * 2 ^ s : Nat) : Int)) := by
  rw [bin_shl (by omega)]
  have h1 : x * 2 ^ s < 18446744073709551616 := by
    have h2 : 2 ^ s ≤ 2 ^ 32 := Nat.pow_le_pow_right (by decide) hs
    have h3 : x * 2 ^ s ≤ x * 2 ^ 32 := Nat.mul_le_mul_left _ h2
    unfold B32 at hx; omega
  have h2 : min (s : Int).toNat IntKind.u64.bits = s := by
    show min (s : Int).toNat 64 = s
    rw [Int.toNat_natCast]; omega
  have h3 : (x : Int) * 2 ^ s = ((x * 2 ^ s : Nat) : Int) := by rw [Int.natCast_mul, Int.natCast_pow]; rfl
  rw [h2, h3, w64 _ h1]
section
variable {P : Program} {G : Nat → Option (List AV)}
theorem shiftLeft_ok {f : FuncId} (h : Has P f w_integer_shiftLeft) (m s : Nat) (hm : wlen m ≤ 1000000) (hs : s ≤ 31) (p : Id) :
    CallRel P G f [W m, .int .i64 (s : Int)] p [] { val := .osl (4 :: p) 1 0 (wlen m + 1) false, rd := [], up := [(4 :: p, some ⟨us (pad (wlen m + 1) (m * 2 ^ s)), 1, false⟩)] } := by
  refine CallRel.has h ?_
  have hL := wrap_succ_i64 (wlen m) (by omega)
  have hmk : ∀ p : Id, vmksl p 1 4 (.int .u32 0) (.int .i64 ((wlen m + 1 : Nat) : Int)) (.int .i64 ((wlen m + 1 : Nat) : Int)) = some { val := .osl p 1 0 (wlen m + 1) false, up := [(p, some ⟨us (List.replicate (wlen m + 1) 0), 1, false⟩)] } := fun p => mkz_us (by omega)
  have hz : us (List.replicate (wlen m + 1) 0) = us (0 :: zs (wlen m)) := rfl
  simp only [w_integer_shiftLeft, SS, Nat.reduceAdd, reduceIte, W_len, hL, hmk, hz, vwp_loop]
  refine VW.loopQ (α := Nat × Nat × List Nat × Nat) (fun x => ⟨[W m, .int .i64 (s : Int), .top, .top, .top, .osl (4 :: p) 1 0 (wlen m + 1) false] ++ List.replicate 7 .top ++ [W m, .int .i64 (wlen m), .int .i64 x.1] ++ List.replicate 25 .top,
    Store.put (Store.of []) (4 :: p) (some ⟨us (x.2.2.1 ++ x.2.2.2 :: zs (wlen m - x.1)), 1, false⟩), x.2.1⟩)
    (fun x => x.1 ≤ wlen m ∧ x.2.2.1.length = x.1 ∧ Wd x.2.2.1 ∧ x.2.2.2 < 2 ^ s ∧ val x.2.2.1 + B32 ^ x.1 * x.2.2.2 = val ((digits m).take x.1) * 2 ^ s) (fun x => wlen m - x.1) (0, 9, [], 0) ?_ ?_ ?_
  · exact Wk.slots (by simp [Fg, List.replicate]) (Nat.le_refl _)
  · exact ⟨Nat.zero_le _, rfl, by intro w hw; simp at hw, Nat.two_pow_pos _, by simp [val]⟩
  rintro ⟨i, nn, o, c⟩ ⟨hi, ho, hwd, hc, hv⟩
  simp only [] at hi ho hwd hc hv
  have hd1 : i < wlen m → decide ((i : Int) < (wlen m : Int)) = true := fun h => dec_true (by omega)
  have hd2 : ¬ i < wlen m → decide ((i : Int) < (wlen m : Int)) = false := fun h => dec_false (by omega)
  have hie : ¬ i < wlen m → i = wlen m := by omega
  have hwi := wrap_succ_i64 i (by omega)
  have hs1 : i < wlen m → i + 1 ≤ wlen m ∧ wlen m - (i + 1) < wlen m - i := fun h => by omega
  have hcB : c < B32 := by
    have h2 : 2 ^ s ≤ 2 ^ 32 := Nat.pow_le_pow_right (by decide) (by omega)
    unfold B32; omega
  simp only [SS, Nat.reduceAdd, reduceIte]
  by_cases hlt : i < wlen m
  · obtain ⟨x, hx⟩ : ∃ x, (digits m)[i]? = some x := ⟨_, List.getElem?_eq_getElem hlt⟩
    have hxw := digits_wd m x (List.mem_of_getElem? hx)
    have f1 := w64_word x hxw
    have f2 := shl64 x s (by omega) hxw
    obtain ⟨g1, g2, g3⟩ := shl_step (s := s) (by omega) hc hxw
    have f3 := or32 c (x * 2 ^ s % B32) hcB (Nat.mod_lt _ B32_pos)
    rw [g1] at f3
    have g4 : x * 2 ^ s / B32 < B32 := by
      have h2 : 2 ^ s ≤ 2 ^ 32 := Nat.pow_le_pow_right (by decide) (by omega)
      have : (2 : Nat) ^ 32 = B32 := rfl
      omega
    have f4 : IntKind.u32.wrap ((x * 2 ^ s / B32 : Nat) : Int) = ((x * 2 ^ s / B32 : Nat) : Int) := by rw [w32, Nat.mod_eq_of_lt g4]
    have hia := iaddr_own (q := 4 :: p) (t := false) (show i < wlen m + 1 by omega)
    have hia1 := iaddr_own (q := 4 :: p) (t := false) (show i + 1 < wlen m + 1 by omega)
    obtain ⟨k, hk⟩ : ∃ k, wlen m - i = k + 1 := ⟨wlen m - i - 1, by omega⟩
    have hk1 : wlen m - (i + 1) = k := by omega
    have hl1 : i < (o ++ c :: 0 :: zs k).length := by simp; omega
    have hl2 : i + 1 < (o ++ (c + x * 2 ^ s % B32) :: 0 :: zs k).length := by simp; omega
    have hv' : val (o ++ [c + x * 2 ^ s % B32]) + B32 ^ (i + 1) * (x * 2 ^ s / B32) = val ((digits m).take (i + 1)) * 2 ^ s := by
      rw [val_take_succ hx, val_append, ho, Nat.add_mul, ← hv]
      simp only [val, Nat.mul_zero, Nat.add_zero, Nat.pow_succ]
      have e2 : B32 ^ i * (x * 2 ^ s % B32) + B32 ^ i * (B32 * (x * 2 ^ s / B32)) = B32 ^ i * (x * 2 ^ s) := by rw [← Nat.mul_add, Nat.mod_add_div]
      rw [Nat.mul_assoc, Nat.mul_assoc, Nat.mul_add]
      omega
    simp only [SS, Nat.reduceAdd, reduceIte, hd1 hlt, W_get hx, vload_ep, part_int, f1, f2, hia, hk, zs_succ]
    rw [load_us (o := o ++ c :: 0 :: zs k) (b := false) (by simp [Store.put]) (get_mid _ _ _ ho)]
    simp only [SS, Nat.reduceAdd, reduceIte, w32, f3, hia]
    rw [store_us (o := o ++ c :: 0 :: zs k) (by simp [Store.put]) hl1, set_mid _ _ _ _ ho]
    simp only [SS, Nat.reduceAdd, reduceIte, hwi, shr32, f4, hia1]
    rw [store_us (o := o ++ (c + x * 2 ^ s % B32) :: 0 :: zs k) (by simp [Store.put]) hl2, set_mid1 _ _ _ _ _ ho]
    simp only [SS, Nat.reduceAdd, reduceIte, hwi]
    refine ⟨(i + 1, _, o ++ [c + x * 2 ^ s % B32], x * 2 ^ s / B32), ⟨(hs1 hlt).1, by simp [ho], wd_append hwd (by intro z hz; simp at hz; subst hz; exact g2), g3, hv'⟩, (hs1 hlt).2, Wk.forget (by simp [Fg, List.replicate]) (fun j => ?_) (Nat.le_refl _)⟩
    simp only [Store.put, hk1]; split <;> simp
  · have hiw := hie hlt
    have e1 : (digits m).take (wlen m) = digits m := List.take_of_length_le (Nat.le_refl _)
    have hvo : val (o ++ [c]) = m * 2 ^ s := by
      rw [val_append, ho]; simp only [val, Nat.mul_zero, Nat.add_zero]
      rw [hv, hiw, e1, val_digits]
    have hlen : (o ++ [c]).length = wlen m + 1 := by simp [ho, hiw]
    have e : pad (wlen m + 1) (m * 2 ^ s) = o ++ [c] := by
      rw [← hvo, ← hlen]
      exact pad_of (wd_append hwd (by intro z hz; simp at hz; subst hz; exact hcB))
    have e3 : zs (wlen m - i) = [] := by rw [hiw, Nat.sub_self]; rfl
    simp only [SS, Nat.reduceAdd, reduceIte, hd2 hlt, e, e3]
    exact endQ_ret ▸ endQ_of_same rfl fun i => .inr rfl
end
end Go.VL
end

section
set_option linter.unusedSimpArgs false
namespace Go.VL
theorem shr_step {x y s : Nat} (hs : s ≤ 32) (hx : x < B32) : (x / 2 ^ s) ||| ((y * 2 ^ (32 - s)) % B32) = x / 2 ^ s + 2 ^ (32 - s) * (y % 2 ^ s) ∧ x / 2 ^ s + 2 ^ (32 - s) * (y % 2 ^ s) < B32 ∧ 2 ^ s * (x / 2 ^ s + 2 ^ (32 - s) * (y % 2 ^ s)) + x % 2 ^ s = x + B32 * (y % 2 ^ s) := by
  have hB := two_split hs
  have e : (y * 2 ^ (32 - s)) % B32 = 2 ^ (32 - s) * (y % 2 ^ s) := by rw [← hB, Nat.mul_comm y, Nat.mul_mod_mul_left]
  have hlt : y % 2 ^ s < 2 ^ s := Nat.mod_lt _ (Nat.two_pow_pos _)
  have hd : x / 2 ^ s < 2 ^ (32 - s) := by rw [Nat.div_lt_iff_lt_mul (Nat.two_pow_pos _), hB]; exact hx
  have h1 : 2 ^ (32 - s) * (y % 2 ^ s + 1) ≤ 2 ^ (32 - s) * 2 ^ s := Nat.mul_le_mul_left _ hlt
  rw [Nat.mul_add, hB] at h1
  refine ⟨?_, by omega, ?_⟩
  · rw [e, Nat.or_comm, ← Nat.two_pow_add_eq_or_of_lt hd, Nat.add_comm]
  · have h2 := Nat.div_add_mod x (2 ^ s)
    have h3 : 2 ^ s * (2 ^ (32 - s) * (y % 2 ^ s)) = B32 * (y % 2 ^ s) := by rw [← Nat.mul_assoc, Nat.mul_comm (2 ^ s), hB]
    rw [Nat.mul_add, h3]; omega
theorem shru32 (x s : Nat) (hs : s ≤ 32) : vbinq .shr .int (.int .u32 (x : Int)) (.int .i64 (s : Int)) = some (.int .u32 ((x / 2 ^ s : Nat) : Int)) := by
  rw [bin_shr (by omega)]
  have h2 : min (s : Int).toNat IntKind.u32.bits = s := by
    show min (s : Int).toNat 32 = s
    rw [Int.toNat_natCast]; omega
  have h3 : (x : Int).fdiv (2 ^ s) = ((x / 2 ^ s : Nat) : Int) := by
    have h4 : (2 : Int) ^ s = ((2 ^ s : Nat) : Int) := by rw [Int.natCast_pow]; rfl
    rw [h4, Int.fdiv_eq_ediv_of_nonneg _ (Int.natCast_nonneg _)]
    exact (Int.natCast_ediv _ _).symm
  rw [h2, h3]
theorem get_zero_digit (m : Nat) : ((digits m)[0]?).getD 0 = m % B32 := by
  by_cases h : m = 0
  · rw [h, digits_zero]; rfl
  · rw [digits_pos h]; rfl
section
variable {P : Program} {G : Nat → Option (List AV)}
theorem shiftRight_ok {f : FuncId} (h : Has P f w_integer_shiftRight) (m s : Nat) (hm : wlen m ≤ 1000000) (hs : s ≤ 31) :
    VP P G f [W m, .int .i64 (s : Int)] (.sl 1 (us (pad (wlen m) (m / 2 ^ s)))) := by
  refine VP.has h ?_
  have hmk : ∀ p : Id, vmksl p 1 4 (.int .u32 0) (.int .i64 (wlen m : Int)) (.int .i64 (wlen m : Int)) = some { val := .osl p 1 0 (wlen m) false, up := [(p, some ⟨us (List.replicate (wlen m) 0), 1, false⟩)] } := fun p => mkz_us (by omega)
  have hz : us (List.replicate (wlen m) 0) = us ([] ++ zs (wlen m - 0)) := rfl
  have hw32 : IntKind.i64.wrap (32 - (s : Int)) = ((32 - s : Nat) : Int) := by rw [IntKind.wrap_i64]; omega
  have h2s : 2 ^ s * 2 ^ (32 - s) = B32 := by rw [Nat.mul_comm]; exact two_split (by omega)
  simp only [w_integer_shiftRight, SS, Nat.reduceAdd, reduceIte, W_len, hmk, hz, vwp_loop]
  refine VW.loopQ (α := Nat × Nat × List Nat) (fun x => ⟨[W m, .int .i64 (s : Int), .top, .top, .top, .osl [3] 1 0 (wlen m) false] ++ List.replicate 5 .top ++ [W m, .int .i64 (wlen m), .int .i64 x.1] ++ List.replicate 33 .top,
    Store.put (fun _ => none) [3] (some ⟨us (x.2.2 ++ zs (wlen m - x.1)), 1, false⟩), x.2.1⟩)
    (fun x => x.1 ≤ wlen m ∧ x.2.2.length = x.1 ∧ Wd x.2.2 ∧ 2 ^ s * val x.2.2 + m % 2 ^ s = val ((digits m).take x.1) + B32 ^ x.1 * (((digits m)[x.1]?).getD 0 % 2 ^ s)) (fun x => wlen m - x.1) (0, 8, []) ?_ ?_ ?_
  · exact Wk.slots (by simp [Fg, List.replicate]) (Nat.le_refl _)
  · refine ⟨Nat.zero_le _, rfl, by intro w hw; simp at hw, ?_⟩
    show 2 ^ s * val [] + m % 2 ^ s = val ((digits m).take 0) + B32 ^ 0 * (((digits m)[0]?).getD 0 % 2 ^ s)
    rw [get_zero_digit, ← h2s, Nat.mod_mul_right_mod]
    simp [val]
  rintro ⟨i, nn, o⟩ ⟨hi, ho, hwd, hv⟩
  simp only [] at hi ho hwd hv
  have hd1 : i < wlen m → decide ((i : Int) < (wlen m : Int)) = true := fun h => dec_true (by omega)
  have hd2 : ¬ i < wlen m → decide ((i : Int) < (wlen m : Int)) = false := fun h => dec_false (by omega)
  have hd3 : i + 1 < wlen m → decide (((i + 1 : Nat) : Int) < (wlen m : Int)) = true := fun h => dec_true (by omega)
  have hd4 : ¬ i + 1 < wlen m → decide (((i + 1 : Nat) : Int) < (wlen m : Int)) = false := fun h => dec_false (by omega)
  have hie : ¬ i < wlen m → i = wlen m := by omega
  have hie1 : i < wlen m → ¬ i + 1 < wlen m → i + 1 = wlen m := by omega
  have hwi := wrap_succ_i64 i (by omega)
  have hs1 : i < wlen m → i + 1 ≤ wlen m ∧ wlen m - (i + 1) < wlen m - i := fun h => by omega
  simp only [SS, Nat.reduceAdd, reduceIte]
  by_cases hlt : i < wlen m
  · obtain ⟨x, hx⟩ : ∃ x, (digits m)[i]? = some x := ⟨_, List.getElem?_eq_getElem hlt⟩
    have hxw := digits_wd m x (List.mem_of_getElem? hx)
    have f2 := shru32 x s (by omega)
    have hia := iaddr_own (q := [3]) (t := false) hlt
    obtain ⟨k, hk⟩ : ∃ k, wlen m - i = k + 1 := ⟨wlen m - i - 1, by omega⟩
    have hk1 : wlen m - (i + 1) = k := by omega
    have hl1 : i < (o ++ 0 :: zs k).length := by simp; omega
    have hl2 : i < (o ++ (x / 2 ^ s) :: zs k).length := by simp; omega
    have hstep : ∀ y w, w = x / 2 ^ s + 2 ^ (32 - s) * (y % 2 ^ s) → 2 ^ s * w + x % 2 ^ s = x + B32 * (y % 2 ^ s) → ((digits m)[i + 1]?).getD 0 = y →
        2 ^ s * val (o ++ [w]) + m % 2 ^ s = val ((digits m).take (i + 1)) + B32 ^ (i + 1) * (((digits m)[i + 1]?).getD 0 % 2 ^ s) := by
      intro y w _ hw hy
      rw [hx, Option.getD_some] at hv
      rw [val_take_succ hx, val_append, ho, hy]
      simp only [val, Nat.mul_zero, Nat.add_zero, Nat.pow_succ]
      have e1 : B32 ^ i * (2 ^ s * w) + B32 ^ i * (x % 2 ^ s) = B32 ^ i * x + B32 ^ i * (B32 * (y % 2 ^ s)) := by rw [← Nat.mul_add, hw, Nat.mul_add]
      have e2 : 2 ^ s * (val o + B32 ^ i * w) = 2 ^ s * val o + B32 ^ i * (2 ^ s * w) := by rw [Nat.mul_add, Nat.mul_left_comm]
      rw [e2, Nat.mul_assoc]
      omega
    by_cases hn : i + 1 < wlen m
    · obtain ⟨y, hy⟩ : ∃ y, (digits m)[i + 1]? = some y := ⟨_, List.getElem?_eq_getElem hn⟩
      have hyw := digits_wd m y (List.mem_of_getElem? hy)
      have f1 := w64_word y hyw
      have f3 := shl64 y (32 - s) (by omega) hyw
      obtain ⟨g1, g2, g3⟩ := shr_step (y := y) (s := s) (by omega) hxw
      have f4 := or32 (x / 2 ^ s) (y * 2 ^ (32 - s) % B32) (Nat.lt_of_le_of_lt (Nat.div_le_self _ _) hxw) (Nat.mod_lt _ B32_pos)
      rw [g1] at f4
      have hv' := hstep y _ rfl g3 (by rw [hy]; rfl)
      simp only [SS, Nat.reduceAdd, reduceIte, hd1 hlt, W_get hx, vload_ep, part_int, f2, hia, hk, zs_succ]
      rw [store_us (o := o ++ 0 :: zs k) (by simp [Store.put]) hl1, set_mid _ _ _ _ ho]
      simp only [SS, DD, Nat.reduceAdd, reduceIte, hwi, W_len, hd3 hn, hia]
      rw [load_us (o := o ++ (x / 2 ^ s) :: zs k) (b := false) (by simp [Store.put]) (get_mid _ _ _ ho)]
      simp only [SS, DD, Nat.reduceAdd, reduceIte, hwi, W_get hy, vload_ep, part_int, f1, hw32, f3, w32, f4, hia]
      rw [store_us (o := o ++ (x / 2 ^ s) :: zs k) (by simp [Store.put]) hl2, set_mid _ _ _ _ ho]
      simp only [SS, DD, Nat.reduceAdd, reduceIte, hwi]
      refine ⟨by simp [allApart], ?_⟩
      refine ⟨(i + 1, _, o ++ [x / 2 ^ s + 2 ^ (32 - s) * (y % 2 ^ s)]), ⟨(hs1 hlt).1, by simp [ho], wd_append hwd (by intro z hz; simp at hz; subst hz; exact g2), hv'⟩, (hs1 hlt).2, Wk.forget (by simp [Fg, List.replicate]) (fun j => ?_) (Nat.le_refl _)⟩
      simp only [Store.put, hk1]; split <;> simp
    · have hnone : (digits m)[i + 1]? = none := List.getElem?_eq_none (by have := hie1 hlt hn; show wlen m ≤ i + 1; omega)
      obtain ⟨g1, g2, g3⟩ := shr_step (y := 0) (s := s) (by omega) hxw
      have e0 : x / 2 ^ s + 2 ^ (32 - s) * (0 % 2 ^ s) = x / 2 ^ s := by simp
      rw [e0] at g2 g3
      have hv' := hstep 0 (x / 2 ^ s) e0.symm g3 (by rw [hnone]; rfl)
      simp only [SS, Nat.reduceAdd, reduceIte, hd1 hlt, W_get hx, vload_ep, part_int, f2, hia, hk, zs_succ]
      rw [store_us (o := o ++ 0 :: zs k) (by simp [Store.put]) hl1, set_mid _ _ _ _ ho]
      simp only [SS, Nat.reduceAdd, reduceIte, hwi, W_len, hd4 hn]
      refine ⟨(i + 1, _, o ++ [x / 2 ^ s]), ⟨(hs1 hlt).1, by simp [ho], wd_append hwd (by intro z hz; simp at hz; subst hz; exact g2), hv'⟩, (hs1 hlt).2, Wk.forget (by simp [Fg, List.replicate]) (fun j => ?_) (Nat.le_refl _)⟩
      simp only [Store.put, hk1]; split <;> simp
  · have hiw := hie hlt
    have e1 : (digits m).take (wlen m) = digits m := List.take_of_length_le (Nat.le_refl _)
    have hnone : (digits m)[wlen m]? = none := List.getElem?_eq_none (Nat.le_refl _)
    have hvo : val o = m / 2 ^ s := by
      rw [hiw, e1, val_digits, hnone] at hv
      have h1 := Nat.div_add_mod m (2 ^ s)
      have h2 : 2 ^ s * val o = 2 ^ s * (m / 2 ^ s) := by
        simp at hv; omega
      exact Nat.eq_of_mul_eq_mul_left (Nat.two_pow_pos _) h2
    have hlen : o.length = wlen m := by rw [ho, hiw]
    have e : pad (wlen m) (m / 2 ^ s) = o := by rw [← hvo, ← hlen]; exact pad_of hwd
    have e3 : zs (wlen m - i) = [] := by rw [hiw, Nat.sub_self]; rfl
    simp only [SS, Nat.reduceAdd, reduceIte, hd2 hlt, e, e3, List.append_nil]
    exact retQ_ret ▸ ret_us (b := false) rfl (by simp [Store.put]) hlen.symm
end
end Go.VL
end

section
set_option linter.unusedSimpArgs false
namespace Go.VL
theorem pad_add (k n c : Nat) : pad k (n + B32 ^ k * c) = pad k n := by
  induction k generalizing n with
  | zero => rfl
  | succ k ih =>
    have e : B32 ^ (k + 1) * c = B32 * (B32 ^ k * c) := by rw [Nat.pow_succ, Nat.mul_comm (B32 ^ k), Nat.mul_assoc]
    simp only [pad]
    rw [e, Nat.add_mul_mod_self_left, Nat.add_mul_div_left _ _ B32_pos, ih]
theorem iaddr_off {q : Id} {off len i : Nat} {t : Bool} (h : i < len) : viaddrS 1 (.osl q 1 off len t) (.int .i64 (i : Int)) = some (.ref q (off + i) 0) := by
  simp only [viaddrS]
  rw [if_pos ⟨trivial, by omega, by omega⟩]
  simp
theorem sub_step2 {x k : Nat} (hx : x < B32) (hk : k ≤ B32) : ∃ w c' : Nat, w < B32 ∧ c' ≤ 1 ∧ w + k = x + B32 * c' ∧ IntKind.u32.wrap (IntKind.u64.wrap ((x : Int) - (k : Int))) = (w : Int) ∧
    vbinq .shr .int (.int .u64 (IntKind.u64.wrap ((x : Int) - (k : Int)))) (.int .u64 63) = some (.int .u64 (c' : Int)) := by
  have hsh : ∀ a : Int, vbinq .shr .int (.int .u64 a) (.int .u64 63) = some (.int .u64 (a / 9223372036854775808)) := fun a => by
    rw [bin_shr (by decide)]
    show some (AV.int .u64 (a.fdiv (2 ^ 63))) = _
    rw [Int.fdiv_eq_ediv_of_nonneg _ (by decide)]; rfl
  rw [hsh]
  unfold B32 at *
  by_cases h : k ≤ x
  · refine ⟨x - k, 0, by omega, by omega, by omega, ?_, ?_⟩
    · rw [IntKind.wrap_u32, IntKind.wrap_u64]; omega
    · rw [IntKind.wrap_u64]; congr 2; omega
  · refine ⟨x + 4294967296 - k, 1, by omega, by omega, by omega, ?_, ?_⟩
    · rw [IntKind.wrap_u32, IntKind.wrap_u64]; omega
    · rw [IntKind.wrap_u64]; congr 2; omega
theorem val_take_all {b : List Nat} {k : Nat} (h : b.length = k) : val (b.take k) = val b := by rw [List.take_of_length_le (Nat.le_of_eq h)]
theorem put_of_eq {i j : Id} {b c : Blk} {d : Option Blk} : (Store.of [(i, b)]).put i d j = (Store.of [(i, c)]).put i d j := by
  by_cases h : j = i
  · subst h; rw [Store.put_same, Store.put_same]
  · rw [Store.put_other _ _ _ h, Store.put_other _ _ _ h]
    have : (j == i) = false := by simpa using h
    simp [Store.of, List.lookup, this]
section
variable {P : Program} {G : Nat → Option (List AV)}
theorem subtract_ok {f : FuncId} (h : Has P f w_integer_subtract) {id : Id} {a b t : List Nat} {v q : Nat} {tight : Bool} (hv : wlen v ≤ 1000000) (hb : b.length = wlen v + 1) (hwb : Wd b) (hq : q < B32) (p : Id) :
    CallRel P G f [.osl id 1 a.length (wlen v + 1) tight, W v, .int .u64 (q : Int)] p [(id, ⟨us (a ++ b ++ t), 1, false⟩)]
      { val := .bool (decide (val b < q * v)), rd := [id], up := [(id, some ⟨us (a ++ pad (wlen v + 1) (val b + B32 ^ (wlen v + 1) - q * v) ++ t), 1, false⟩)] } := by
  refine CallRel.has h ?_
  simp only [w_integer_subtract, SS, Nat.reduceAdd, reduceIte, W_len, vwp_loop]
  refine VW.loopQ (α := Nat × Nat × List Nat × Nat) (fun x => ⟨[.osl id 1 a.length (wlen v + 1) tight, W v, .int .u64 (q : Int), .top, .top, .top, .top, .int .u64 (x.2.2.2 : Int)] ++ List.replicate 5 .top ++ [W v, .int .i64 (wlen v), .int .i64 x.1] ++ List.replicate 47 .top,
    Store.of [(id, ⟨us ((a ++ x.2.2.1) ++ (b.drop x.1 ++ t)), 1, false⟩)], x.2.1⟩)
    (fun x => x.1 ≤ wlen v ∧ x.2.2.1.length = x.1 ∧ Wd x.2.2.1 ∧ x.2.2.2 ≤ B32 ∧ val x.2.2.1 + val ((digits v).take x.1) * q = val (b.take x.1) + B32 ^ x.1 * x.2.2.2) (fun x => wlen v - x.1) (0, 5, [], 0) ?_ ?_ ?_
  · exact Wk.forget (by simp [Fg, List.replicate]) (fun j => by simp) (Nat.le_refl _)
  · exact ⟨Nat.zero_le _, rfl, by intro w hw; simp at hw, Nat.zero_le _, by simp [val]⟩
  rintro ⟨i, nn, o, k⟩ ⟨hi, ho, hwd, hk, hv'⟩
  simp only [] at hi ho hwd hk hv'
  have hd1 : i < wlen v → decide ((i : Int) < (wlen v : Int)) = true := fun h => dec_true (by omega)
  have hd2 : ¬ i < wlen v → decide ((i : Int) < (wlen v : Int)) = false := fun h => dec_false (by omega)
  have hie : ¬ i < wlen v → i = wlen v := by omega
  have hwi := wrap_succ_i64 i (by omega)
  have hs1 : i < wlen v → i + 1 ≤ wlen v ∧ wlen v - (i + 1) < wlen v - i := fun h => by omega
  have hib : i < b.length := by omega
  have hia := iaddr_off (q := id) (off := a.length) (t := tight) (show i < wlen v + 1 by omega)
  obtain ⟨x, hx⟩ : ∃ x, b[i]? = some x := ⟨_, List.getElem?_eq_getElem hib⟩
  have hxw := hwb x (List.mem_of_getElem? hx)
  have hdr : b.drop i = x :: b.drop (i + 1) := by
    obtain ⟨_, h2⟩ := List.getElem?_eq_some_iff.1 hx
    rw [List.drop_eq_getElem_cons hib, h2]
  have f1 := w64_word x hxw
  have hao : (a ++ o).length = a.length + i := by rw [List.length_append, ho]
  have hl1 : a.length + i < ((a ++ o) ++ x :: (b.drop (i + 1) ++ t)).length := by rw [List.length_append, hao]; simp
  simp only [SS, Nat.reduceAdd, reduceIte]
  by_cases hlt : i < wlen v
  · obtain ⟨y, hy⟩ : ∃ y, (digits v)[i]? = some y := ⟨_, List.getElem?_eq_getElem hlt⟩
    have hyw := digits_wd v y (List.mem_of_getElem? hy)
    have f2 := w64_word y hyw
    have f3 := mul64 y q hyw hq
    have hle := mul_le hyw hq
    have f4 := add64 (y * q) k (by unfold B32 at hk; omega)
    have f5 : IntKind.u64.wrap (((y * q + k) % B32 : Nat) : Int) = (((y * q + k) % B32 : Nat) : Int) := w64_word _ (Nat.mod_lt _ B32_pos)
    obtain ⟨w, c', h1, h2, h3, h4, h5⟩ := sub_step2 (k := (y * q + k) % B32) hxw (Nat.le_of_lt (Nat.mod_lt _ B32_pos))
    have hdq : (y * q + k) / B32 + 1 ≤ B32 := by unfold B32 at hk ⊢; omega
    have f6 := add64 ((y * q + k) / B32) c' (by unfold B32 at hdq ⊢; omega)
    have hk' : (y * q + k) / B32 + c' ≤ B32 := by omega
    have hst : w + y * q + k = x + B32 * ((y * q + k) / B32 + c') := by
      have := Nat.mod_add_div (y * q + k) B32
      rw [Nat.mul_add]; omega
    have hvn := diff_step (va := val (b.take i)) (vb := val ((digits v).take i) * q) ho (by rw [hv']; omega) hst
    simp only [SS, Nat.reduceAdd, reduceIte, hd1 hlt, W_get hy, vload_ep, part_int, f2, f3, f4, hia, hdr, List.cons_append]
    rw [load_us (o := (a ++ o) ++ x :: (b.drop (i + 1) ++ t)) (b := false) (by simp [Store.of]) (get_mid _ _ _ hao)]
    simp only [SS, Nat.reduceAdd, reduceIte, f1, w32, f5, h4, hia]
    rw [store_us (o := (a ++ o) ++ x :: (b.drop (i + 1) ++ t)) (by simp [Store.of]) hl1, set_mid _ _ _ _ hao]
    simp only [SS, Nat.reduceAdd, reduceIte, shr32, h5, f6, hwi]
    refine ⟨(i + 1, _, o ++ [w], (y * q + k) / B32 + c'), ⟨(hs1 hlt).1, by simp [ho], wd_append hwd (by intro z hz; simp at hz; subst hz; exact h1), hk', ?_⟩, (hs1 hlt).2, Wk.forget (by simp [Fg, List.replicate]) (fun j => ?_) (Nat.le_refl _)⟩
    · show val (o ++ [w]) + val ((digits v).take (i + 1)) * q = _
      rw [val_take_succ hx, val_take_succ hy, Nat.add_mul, Nat.mul_assoc]; exact hvn
    · simp only [Store.put, Store.of]; split <;> simp_all
  · have hiw := hie hlt
    subst hiw
    obtain ⟨w, c', h1, h2, h3, h4, h5⟩ := sub_step2 (k := k) hxw hk
    have hbd : b.drop (wlen v + 1) = [] := List.drop_eq_nil_of_le (by omega)
    have e1 : (digits v).take (wlen v) = digits v := List.take_of_length_le (Nat.le_refl _)
    have e2 : val (b.take (wlen v + 1)) = val b := val_take_all hb
    have hvn := diff_step (va := val (b.take (wlen v))) (vb := val ((digits v).take (wlen v)) * q) (y := 0) (c := k) (w := w) (c' := c') (x := x) ho (by rw [hv']; omega) (by omega)
    rw [e1, val_digits, ← val_take_succ hx, e2, Nat.mul_zero, Nat.add_zero, Nat.mul_comm v q] at hvn
    have hwo : Wd (o ++ [w]) := wd_append hwd (by intro z hz; simp at hz; subst hz; exact h1)
    have hlo : (o ++ [w]).length = wlen v + 1 := by simp [ho]
    have hlt2 : val (o ++ [w]) < B32 ^ (wlen v + 1) := by have := val_lt hwo; rwa [hlo] at this
    have e : pad (wlen v + 1) (val b + B32 ^ (wlen v + 1) - q * v) = o ++ [w] ∧ decide ((c' : Int) = 1) = decide (val b < q * v) := by
      rcases Nat.le_one_iff_eq_zero_or_eq_one.1 h2 with h0 | h0
      · rw [h0] at hvn ⊢
        refine ⟨?_, ?_⟩
        · have : val b + B32 ^ (wlen v + 1) - q * v = val (o ++ [w]) + B32 ^ (wlen v + 1) * 1 := by omega
          rw [this, pad_add, ← hlo]; exact pad_of hwo
        · rw [dec_false (show ¬ val b < q * v by omega)]; rfl
      · rw [h0] at hvn ⊢
        refine ⟨?_, ?_⟩
        · have : val b + B32 ^ (wlen v + 1) - q * v = val (o ++ [w]) := by omega
          rw [this, ← hlo]; exact pad_of hwo
        · rw [dec_true (show val b < q * v by omega)]; rfl
    simp only [SS, Nat.reduceAdd, reduceIte, hd2 hlt, W_len, hia, hdr, List.cons_append]
    rw [load_us (o := (a ++ o) ++ x :: (b.drop (wlen v + 1) ++ t)) (b := false) (by simp [Store.of]) (get_mid _ _ _ hao)]
    simp only [SS, Nat.reduceAdd, reduceIte, f1, h4, hia, W_len]
    rw [store_us (o := (a ++ o) ++ x :: (b.drop (wlen v + 1) ++ t)) (by simp [Store.of]) hl1, set_mid _ _ _ _ hao, hbd]
    simp only [SS, Nat.reduceAdd, reduceIte, h5, e.2, e.1]
    have e5 : a ++ (o ++ [w]) ++ t = a ++ o ++ w :: t := by simp
    refine endQ_ret ▸ endQ_of_same rfl fun i => .inr ?_
    simp only [Store.app, e5]; exact put_of_eq
end
end Go.VL
end

section
set_option linter.unusedSimpArgs false
namespace Go.VL
section
variable {P : Program} {G : Nat → Option (List AV)}
theorem restore_ok {f : FuncId} (h : Has P f w_integer_restore) {id : Id} {a b t : List Nat} {v : Nat} {tight : Bool} (hv : wlen v ≤ 1000000) (hb : b.length = wlen v + 1) (hwb : Wd b) (p : Id) :
    CallRel P G f [.osl id 1 a.length (wlen v + 1) tight, W v] p [(id, ⟨us (a ++ b ++ t), 1, false⟩)]
      { val := .tup [], rd := [id], up := [(id, some ⟨us (a ++ pad (wlen v + 1) (val b + v) ++ t), 1, false⟩)] } := by
  refine CallRel.has h ?_
  simp only [w_integer_restore, SS, Nat.reduceAdd, reduceIte, W_len, vwp_loop]
  refine VW.loopQ (α := Nat × Nat × List Nat × Nat) (fun x => ⟨[.osl id 1 a.length (wlen v + 1) tight, W v, .top, .top, .int .u64 (x.2.2.2 : Int)] ++ List.replicate 2 .top ++ [W v, .int .i64 (wlen v), .int .i64 x.1] ++ List.replicate 31 .top,
    Store.of [(id, ⟨us ((a ++ x.2.2.1) ++ (b.drop x.1 ++ t)), 1, false⟩)], x.2.1⟩)
    (fun x => x.1 ≤ wlen v ∧ x.2.2.1.length = x.1 ∧ Wd x.2.2.1 ∧ x.2.2.2 ≤ 1 ∧ val x.2.2.1 + B32 ^ x.1 * x.2.2.2 = val (b.take x.1) + val ((digits v).take x.1)) (fun x => wlen v - x.1) (0, 4, [], 0) ?_ ?_ ?_
  · exact Wk.forget (by simp [Fg, List.replicate]) (fun j => by simp) (Nat.le_refl _)
  · exact ⟨Nat.zero_le _, rfl, by intro w hw; simp at hw, Nat.zero_le _, by simp [val]⟩
  rintro ⟨i, nn, o, k⟩ ⟨hi, ho, hwd, hk, hv'⟩
  simp only [] at hi ho hwd hk hv'
  have hd1 : i < wlen v → decide ((i : Int) < (wlen v : Int)) = true := fun h => dec_true (by omega)
  have hd2 : ¬ i < wlen v → decide ((i : Int) < (wlen v : Int)) = false := fun h => dec_false (by omega)
  have hie : ¬ i < wlen v → i = wlen v := by omega
  have hwi := wrap_succ_i64 i (by omega)
  have hs1 : i < wlen v → i + 1 ≤ wlen v ∧ wlen v - (i + 1) < wlen v - i := fun h => by omega
  have hib : i < b.length := by omega
  have hia := iaddr_off (q := id) (off := a.length) (t := tight) (show i < wlen v + 1 by omega)
  obtain ⟨x, hx⟩ : ∃ x, b[i]? = some x := ⟨_, List.getElem?_eq_getElem hib⟩
  have hxw := hwb x (List.mem_of_getElem? hx)
  have hdr : b.drop i = x :: b.drop (i + 1) := by
    obtain ⟨_, h2⟩ := List.getElem?_eq_some_iff.1 hx
    rw [List.drop_eq_getElem_cons hib, h2]
  have f1 := w64_word x hxw
  have hao : (a ++ o).length = a.length + i := by rw [List.length_append, ho]
  have hl1 : a.length + i < ((a ++ o) ++ x :: (b.drop (i + 1) ++ t)).length := by rw [List.length_append, hao]; simp
  simp only [SS, Nat.reduceAdd, reduceIte]
  by_cases hlt : i < wlen v
  · obtain ⟨y, hy⟩ : ∃ y, (digits v)[i]? = some y := ⟨_, List.getElem?_eq_getElem hlt⟩
    have hyw := digits_wd v y (List.mem_of_getElem? hy)
    have f2 := w64_word y hyw
    have f3 := add64 x y (by unfold B32 at hxw hyw; omega)
    have f4 := add64 k (x + y) (by unfold B32 at hxw hyw; omega)
    have hk' : (k + (x + y)) / B32 ≤ 1 := by unfold B32 at hxw hyw ⊢; omega
    have hvn := sum_step (x := x) (y := y) (s := k + (x + y)) ho hv' (by omega)
    simp only [SS, Nat.reduceAdd, reduceIte, hd1 hlt, W_get hy, vload_ep, part_int, hia, hdr, List.cons_append]
    rw [load_us (o := (a ++ o) ++ x :: (b.drop (i + 1) ++ t)) (b := false) (by simp [Store.of]) (get_mid _ _ _ hao)]
    simp only [SS, Nat.reduceAdd, reduceIte, f1, f2, f3, f4, w32, hia]
    rw [store_us (o := (a ++ o) ++ x :: (b.drop (i + 1) ++ t)) (by simp [Store.of]) hl1, set_mid _ _ _ _ hao]
    simp only [SS, Nat.reduceAdd, reduceIte, shr32, hwi]
    refine ⟨(i + 1, _, o ++ [(k + (x + y)) % B32], (k + (x + y)) / B32), ⟨(hs1 hlt).1, by simp [ho], wd_snoc hwd _, hk', ?_⟩, (hs1 hlt).2, Wk.forget (by simp [Fg, List.replicate]) (fun j => ?_) (Nat.le_refl _)⟩
    · show val (o ++ [(k + (x + y)) % B32]) + B32 ^ (i + 1) * ((k + (x + y)) / B32) = _
      rw [val_take_succ hx, val_take_succ hy]; exact hvn
    · simp only [Store.put, Store.of]; split <;> simp_all
  · have hiw := hie hlt
    subst hiw
    have hbd : b.drop (wlen v + 1) = [] := List.drop_eq_nil_of_le (by omega)
    have e1 : (digits v).take (wlen v) = digits v := List.take_of_length_le (Nat.le_refl _)
    have e2 : val (b.take (wlen v + 1)) = val b := val_take_all hb
    have hvn := sum_step (x := x) (y := 0) (s := k + x) ho hv' (by omega)
    rw [e1, val_digits, ← val_take_succ hx, e2] at hvn
    simp only [Nat.mul_zero, Nat.add_zero] at hvn
    have f5 : IntKind.u32.wrap (k : Int) = (k : Int) := by rw [w32, Nat.mod_eq_of_lt (by unfold B32; omega)]
    have f6 : IntKind.u32.wrap ((x : Int) + (k : Int)) = (((k + x) % B32 : Nat) : Int) := by rw [IntKind.wrap_u32]; unfold B32; omega
    have hwo : Wd (o ++ [(k + x) % B32]) := wd_snoc hwd _
    have hlo : (o ++ [(k + x) % B32]).length = wlen v + 1 := by simp [ho]
    have e : pad (wlen v + 1) (val b + v) = o ++ [(k + x) % B32] := by
      rw [← hvn, pad_add, ← hlo]; exact pad_of hwo
    simp only [SS, Nat.reduceAdd, reduceIte, hd2 hlt, W_len, hia, hdr, List.cons_append]
    rw [load_us (o := (a ++ o) ++ x :: (b.drop (wlen v + 1) ++ t)) (b := false) (by simp [Store.of]) (get_mid _ _ _ hao)]
    simp only [SS, Nat.reduceAdd, reduceIte, f5, f6, hia, W_len]
    rw [store_us (o := (a ++ o) ++ x :: (b.drop (wlen v + 1) ++ t)) (by simp [Store.of]) hl1, set_mid _ _ _ _ hao, hbd]
    simp only [SS, Nat.reduceAdd, reduceIte, e]
    have e5 : a ++ (o ++ [(k + x) % B32]) ++ t = a ++ o ++ (k + x) % B32 :: t := by simp
    refine endQ_normal ▸ endQ_of_same rfl fun i => .inr ?_
    simp only [Store.app, e5]; exact put_of_eq
end
end Go.VL
end

section
set_option linter.unusedSimpArgs false
namespace Go.VL
def lens : List UInt8 := [0, 1, 2, 2, 3, 3, 3, 3, 4, 4, 4, 4, 4, 4, 4, 4, 5, 5, 5, 5, 5, 5, 5, 5, 5, 5, 5, 5, 5, 5, 5, 5, 6, 6, 6, 6, 6, 6, 6, 6, 6, 6, 6, 6, 6, 6, 6, 6, 6, 6, 6, 6, 6, 6, 6, 6, 6, 6, 6, 6, 6, 6, 6, 6, 7, 7, 7, 7, 7, 7, 7, 7, 7, 7, 7, 7, 7, 7, 7, 7, 7, 7, 7, 7, 7, 7, 7, 7, 7, 7, 7, 7, 7, 7, 7, 7, 7, 7, 7, 7, 7, 7, 7, 7, 7, 7, 7, 7, 7, 7, 7, 7, 7, 7, 7, 7, 7, 7, 7, 7, 7, 7, 7, 7, 7, 7, 7, 7, 8, 8, 8, 8, 8, 8, 8, 8, 8, 8, 8, 8, 8, 8, 8, 8, 8, 8, 8, 8, 8, 8, 8, 8, 8, 8, 8, 8, 8, 8, 8, 8, 8, 8, 8, 8, 8, 8, 8, 8, 8, 8, 8, 8, 8, 8, 8, 8, 8, 8, 8, 8, 8, 8, 8, 8, 8, 8, 8, 8, 8, 8, 8, 8, 8, 8, 8, 8, 8, 8, 8, 8, 8, 8, 8, 8, 8, 8, 8, 8, 8, 8, 8, 8, 8, 8, 8, 8, 8, 8, 8, 8, 8, 8, 8, 8, 8, 8, 8, 8, 8, 8, 8, 8, 8, 8, 8, 8, 8, 8, 8, 8, 8, 8, 8, 8, 8, 8, 8, 8, 8, 8, 8, 8, 8, 8, 8, 8]
def len8 (v : Nat) : Nat := ((lens[v]?).getD 0).toNat
def blen (x : Nat) : Nat :=
  if 65536 ≤ x then (if 256 ≤ x / 65536 then 24 + len8 (x / 65536 / 256) else 16 + len8 (x / 65536)) else (if 256 ≤ x then 8 + len8 (x / 256) else len8 x)
set_option maxRecDepth 100000 in
theorem lens_get {v : Nat} (h : v < 256) : lens[v]? = some ((lens[v]?).getD 0) := by
  have : v < lens.length := h
  rw [List.getElem?_eq_getElem this]; rfl
theorem len8_le (v : Nat) : len8 v < 256 := (((lens[v]?).getD 0)).toNat_lt
set_option maxRecDepth 100000 in
theorem len8_all : (List.range 256).all (fun v => v == 0 || (decide (v < 2 ^ len8 v) && decide (2 ^ len8 v ≤ 2 * v))) = true := by decide
theorem len8_law {v : Nat} (h : v < 256) (h0 : 0 < v) : v < 2 ^ len8 v ∧ 2 ^ len8 v ≤ 2 * v := by
  have := List.all_eq_true.1 len8_all v (List.mem_range.2 h)
  simp only [Bool.or_eq_true, Bool.and_eq_true, beq_iff_eq, decide_eq_true_eq] at this
  rcases this with h1 | h1
  · omega
  · exact h1
theorem blen_scale {x a k j : Nat} (he : a = x / 2 ^ j) (h : a < 2 ^ k ∧ 2 ^ k ≤ 2 * a) : x < 2 ^ (j + k) ∧ 2 ^ (j + k) ≤ 2 * x := by
  subst he
  have hp := Nat.two_pow_pos j
  refine ⟨?_, ?_⟩
  · have := (Nat.div_lt_iff_lt_mul hp).1 h.1
    rwa [Nat.pow_add, Nat.mul_comm]
  · have h1 := Nat.mul_le_mul_left (2 ^ j) h.2
    have h2 := Nat.mul_div_le x (2 ^ j)
    rw [Nat.pow_add, Nat.mul_left_comm] at *
    omega
theorem blen_law {x : Nat} (h : x < B32) (h0 : 0 < x) : x < 2 ^ blen x ∧ 2 ^ blen x ≤ 2 * x := by
  unfold B32 at h
  unfold blen
  by_cases h1 : 65536 ≤ x
  · by_cases h2 : 256 ≤ x / 65536
    · rw [if_pos h1, if_pos h2]
      exact blen_scale (j := 24) (a := x / 65536 / 256) (by rw [Nat.div_div_eq_div_mul]) (len8_law (by omega) (by omega))
    · rw [if_pos h1, if_neg h2]
      exact blen_scale (j := 16) (a := x / 65536) rfl (len8_law (by omega) (by omega))
  · by_cases h2 : 256 ≤ x
    · rw [if_neg h1, if_pos h2]
      exact blen_scale (j := 8) (a := x / 256) rfl (len8_law (by omega) (by omega))
    · rw [if_neg h1, if_neg h2]
      exact len8_law (by omega) h0
section
variable {P : Program} {G : Nat → Option (List AV)}
set_option maxRecDepth 100000 in
theorem len32_ok {f : FuncId} (h : Has P f w_math_bits_Len32) (x : Nat) (hx : x < B32) : VP P G f [.int .u32 (x : Int)] (.int .i64 (blen x : Int)) := by
  refine VP.has h ?_
  have s16 : vbinq .shr .int (.int .u32 (x : Int)) (.int .u64 16) = some (.int .u32 ((x / 65536 : Nat) : Int)) := by
    rw [bin_shr (by decide)]
    have : (x : Int).fdiv (2 ^ (min (16 : Int).toNat IntKind.u32.bits)) = ((x / 65536 : Nat) : Int) := by
      show (x : Int).fdiv (2 ^ 16) = _
      rw [Int.fdiv_eq_ediv_of_nonneg _ (by decide)]; omega
    rw [this]
  have s8 : ∀ y : Nat, vbinq .shr .int (.int .u32 (y : Int)) (.int .u64 8) = some (.int .u32 ((y / 256 : Nat) : Int)) := fun y => by
    rw [bin_shr (by decide)]
    have : (y : Int).fdiv (2 ^ (min (8 : Int).toNat IntKind.u32.bits)) = ((y / 256 : Nat) : Int) := by
      show (y : Int).fdiv (2 ^ 8) = _
      rw [Int.fdiv_eq_ediv_of_nonneg _ (by decide)]; omega
    rw [this]
  have w8 : ∀ y : Nat, y < 256 → IntKind.u8.wrap (y : Int) = (y : Int) := fun y h => by rw [IntKind.wrap_u8']; omega
  have wl : ∀ y : Nat, IntKind.i64.wrap ((len8 y : Nat) : Int) = ((len8 y : Nat) : Int) := fun y => by have := len8_le y; rw [IntKind.wrap_i64]; omega
  have hix : ∀ (p : Id) (σ : Store) (y : Nat), y < 256 → vop σ p (.indexS (.str [0, 1, 2, 2, 3, 3, 3, 3, 4, 4, 4, 4, 4, 4, 4, 4, 5, 5, 5, 5, 5, 5, 5, 5, 5, 5, 5, 5, 5, 5, 5, 5, 6, 6, 6, 6, 6, 6, 6, 6, 6, 6, 6, 6, 6, 6, 6, 6, 6, 6, 6, 6, 6, 6, 6, 6, 6, 6, 6, 6, 6, 6, 6, 6, 7, 7, 7, 7, 7, 7, 7, 7, 7, 7, 7, 7, 7, 7, 7, 7, 7, 7, 7, 7, 7, 7, 7, 7, 7, 7, 7, 7, 7, 7, 7, 7, 7, 7, 7, 7, 7, 7, 7, 7, 7, 7, 7, 7, 7, 7, 7, 7, 7, 7, 7, 7, 7, 7, 7, 7, 7, 7, 7, 7, 7, 7, 7, 7, 8, 8, 8, 8, 8, 8, 8, 8, 8, 8, 8, 8, 8, 8, 8, 8, 8, 8, 8, 8, 8, 8, 8, 8, 8, 8, 8, 8, 8, 8, 8, 8, 8, 8, 8, 8, 8, 8, 8, 8, 8, 8, 8, 8, 8, 8, 8, 8, 8, 8, 8, 8, 8, 8, 8, 8, 8, 8, 8, 8, 8, 8, 8, 8, 8, 8, 8, 8, 8, 8, 8, 8, 8, 8, 8, 8, 8, 8, 8, 8, 8, 8, 8, 8, 8, 8, 8, 8, 8, 8, 8, 8, 8, 8, 8, 8, 8, 8, 8, 8, 8, 8, 8, 8, 8, 8, 8, 8, 8, 8, 8, 8, 8, 8, 8, 8, 8, 8, 8, 8, 8, 8, 8, 8, 8, 8, 8, 8]) (.int .u8 (y : Int))) = some { val := .int .u8 ((len8 y : Nat) : Int) } := fun p σ y h => by
    show vop σ p (.indexS (.str lens) (.int .u8 (y : Int))) = _
    rw [vop_indexS, if_pos (by omega), Int.toNat_natCast, lens_get h]; rfl
  have hB : x < 4294967296 := hx
  simp only [w_math_bits_Len32]
  by_cases h1 : 65536 ≤ x
  · have d1 : decide ((65536 : Int) ≤ (x : Int)) = true := dec_true (by omega)
    by_cases h2 : 256 ≤ x / 65536
    · have d2 : decide ((256 : Int) ≤ ((x / 65536 : Nat) : Int)) = true := dec_true (by omega)
      have hb : x / 65536 / 256 < 256 := by omega
      have e : blen x = 24 + len8 (x / 65536 / 256) := by unfold blen; rw [if_pos h1, if_pos h2]
      have e1 : IntKind.i64.wrap ((16 : Int) + 8) = 24 := by rw [IntKind.wrap_i64]; omega
      have e2 : IntKind.i64.wrap ((24 : Int) + ((len8 (x / 65536 / 256) : Nat) : Int)) = ((24 + len8 (x / 65536 / 256) : Nat) : Int) := by have := len8_le (x / 65536 / 256); rw [IntKind.wrap_i64]; omega
      simp only [SS, Nat.reduceAdd, reduceIte, d1, d2, s16, s8, w8 _ hb, hix _ _ _ hb, wl, e1, e2]
      rw [e]; exact retQ_ret ▸ retQ_of_pure rfl (PureAV.int _ _)
    · have d2 : decide ((256 : Int) ≤ ((x / 65536 : Nat) : Int)) = false := dec_false (by omega)
      have hb : x / 65536 < 256 := by omega
      have e : blen x = 16 + len8 (x / 65536) := by unfold blen; rw [if_pos h1, if_neg h2]
      have e2 : IntKind.i64.wrap ((16 : Int) + ((len8 (x / 65536) : Nat) : Int)) = ((16 + len8 (x / 65536) : Nat) : Int) := by have := len8_le (x / 65536); rw [IntKind.wrap_i64]; omega
      simp only [SS, Nat.reduceAdd, reduceIte, d1, d2, s16, w8 _ hb, hix _ _ _ hb, wl, e2]
      rw [e]; exact retQ_ret ▸ retQ_of_pure rfl (PureAV.int _ _)
  · have d1 : decide ((65536 : Int) ≤ (x : Int)) = false := dec_false (by omega)
    by_cases h2 : 256 ≤ x
    · have d2 : decide ((256 : Int) ≤ (x : Int)) = true := dec_true (by omega)
      have hb : x / 256 < 256 := by omega
      have e : blen x = 8 + len8 (x / 256) := by unfold blen; rw [if_neg h1, if_pos h2]
      have e1 : IntKind.i64.wrap ((0 : Int) + 8) = 8 := by rw [IntKind.wrap_i64]; omega
      have e2 : IntKind.i64.wrap ((8 : Int) + ((len8 (x / 256) : Nat) : Int)) = ((8 + len8 (x / 256) : Nat) : Int) := by have := len8_le (x / 256); rw [IntKind.wrap_i64]; omega
      simp only [SS, Nat.reduceAdd, reduceIte, d1, d2, s8, w8 _ hb, hix _ _ _ hb, wl, e1, e2]
      rw [e]; exact retQ_ret ▸ retQ_of_pure rfl (PureAV.int _ _)
    · have d2 : decide ((256 : Int) ≤ (x : Int)) = false := dec_false (by omega)
      have hb : x < 256 := by omega
      have e : blen x = len8 x := by unfold blen; rw [if_neg h1, if_neg h2]
      have e2 : IntKind.i64.wrap ((0 : Int) + ((len8 x : Nat) : Int)) = ((len8 x : Nat) : Int) := by have := len8_le x; rw [IntKind.wrap_i64]; omega
      simp only [SS, Nat.reduceAdd, reduceIte, d1, d2, w8 _ hb, hix _ _ _ hb, wl, e2]
      rw [e]; exact retQ_ret ▸ retQ_of_pure rfl (PureAV.int _ _)
theorem lz32_ok {f fl : FuncId} (h : Has P f (w_math_bits_LeadingZeros32 fl)) (hl : ∀ x, x < B32 → VP P G fl [.int .u32 ((x : Nat) : Int)] (.int .i64 (blen x : Int))) (x : Nat) (hx : x < B32) (h0 : 0 < x) : VP P G f [.int .u32 (x : Int)] (.int .i64 ((32 - blen x : Nat) : Int)) := by
  refine VP.has h ?_
  have hb : blen x ≤ 32 := by
    have h1 := (blen_law hx h0).2
    have h2 : 2 ^ blen x < 2 ^ 33 := by unfold B32 at hx; omega
    have := (Nat.pow_lt_pow_iff_right (by decide : 1 < 2)).1 h2
    omega
  have e : IntKind.i64.wrap ((32 : Int) - ((blen x : Nat) : Int)) = ((32 - blen x : Nat) : Int) := by rw [IntKind.wrap_i64]; omega
  simp only [w_math_bits_LeadingZeros32, SS, Nat.reduceAdd, reduceIte]
  refine vsCall_VP (hl x hx) (by simp [PureAV.int]) ?_
  simp only [SS, Nat.reduceAdd, reduceIte, e]
  exact retQ_ret ▸ retQ_of_pure rfl (PureAV.int _ _)
end
end Go.VL
end

section
set_option linter.unusedSimpArgs false
namespace Go.VL
section
variable {P : Program} {G : Nat → Option (List AV)}
theorem cloneU_ok {f : FuncId} (h : Has P f w_slices_Clone_Luint32_uint32) {es : List AV} (hk : ∀ e ∈ es, e.size = 1) (h1 : (es.all fun e => e.cells.all AV.one) = true) (hp : ∀ c ∈ flat es, PureAV c) (hl : es.length * 4 ≤ 140737488355328) : VP P G f [.sl 1 es] (.sl 1 es) := by
  refine VP.has h ?_
  have hb : ∀ (σ : Store) (p : Id), vop σ p (.buildSl 1 0 (.int .u32 0) []) = some { val := .tsl 1 [] } := fun σ p => bs0 rfl rfl
  cases es with
  | nil =>
    simp only [w_slices_Clone_Luint32_uint32, SS, Nat.reduceAdd, reduceIte]
    refine ⟨?_, ?_⟩
    · exact retQ_ret ▸ ⟨.nils, rfl, View.nils 1⟩
    · simp only [SS, Nat.reduceAdd, reduceIte, hb, vappend_none_t elemsOf_sl]
      exact retQ_ret ▸ ⟨_, rfl, View.tsl0 1⟩
  | cons e es =>
    simp only [w_slices_Clone_Luint32_uint32, SS, Nat.reduceAdd, reduceIte, hb]
    rw [vappend_tsl (es := []) elemsOf_sl (by simp) (by simpa using hl) (le_maxLen (by simp at hl ⊢; omega)) (by simpa using h1)]
    simp only [SS, Nat.reduceAdd, reduceIte]
    refine retQ_ret ▸ ⟨_, rfl, View.osl (bk := ⟨e :: es, 1, false⟩) rfl rfl (by simp) ?_ (by simp) hk⟩
    simpa using ViewL.pure hp
theorem cloneW_ok {f : FuncId} (h : Has P f w_slices_Clone_Luint32_uint32) (n : Nat) (hn : wlen n ≤ 1000000) : VP P G f [W n] (W n) :=
  cloneU_ok h (us_size _) (us_one _) (us_pures _) (by rw [us_len]; show wlen n * 4 ≤ _; omega)
end
end Go.VL
end

section
set_option linter.unusedSimpArgs false
namespace Go.VL
theorem sgn_self (z : Int) : sgn (decide (z < 0)) z.natAbs = z := by
  unfold sgn
  by_cases h : z < 0
  · simp only [h, decide_true, if_true]; omega
  · simp only [h, decide_false, Bool.false_eq_true, if_false]; omega
theorem sgn_neg (z : Int) : sgn (!decide (z < 0)) z.natAbs = -z := by
  unfold sgn
  by_cases h : z < 0
  · simp only [h, decide_true, Bool.not_true, Bool.false_eq_true, if_false]; omega
  · simp only [h, decide_false, Bool.not_false, if_true]; omega
theorem sgn_mul (y z : Int) : sgn (!(decide (y < 0) == decide (z < 0))) (y.natAbs * z.natAbs) = y * z := by
  rw [← Int.natAbs_mul]
  unfold sgn
  by_cases h : y < 0 <;> by_cases h2 : z < 0
  · have := Int.mul_pos_of_neg_of_neg h h2
    simp [h, h2]; omega
  · have h3 : y * z ≤ 0 := Int.mul_nonpos_of_nonpos_of_nonneg (by omega) (by omega)
    simp [h, h2]; omega
  · have h3 : y * z ≤ 0 := Int.mul_nonpos_of_nonneg_of_nonpos (by omega) (by omega)
    simp [h, h2]; omega
  · have h3 : 0 ≤ y * z := Int.mul_nonneg (by omega) (by omega)
    simp [h, h2]; omega
theorem zeroI_one : ((AV.cells (.agg [(.bool false), .nils])).all AV.one = true) = True := by simp [AV.cells, AV.one]
theorem store_IV (σ : Store) (id : Id) (k : Nat) (z : Int) : vstore (σ.put id (some ⟨[.agg [.bool false, .nils]], k, false⟩)) 2 (.ref id 0 0) (IV z) = some { val := .tup [], rd := [id], up := [(id, some ⟨[IV z], k, false⟩)] } := by
  rw [vstore_at (n := 2) (v := IV z) (els := [.agg [.bool false, .nils]]) (k := k) (Store.put_same _ _ _) rfl rfl (by simp [AV.size, AV.cells]) rfl]
  rfl
section
variable {P : Program} {G : Nat → Option (List AV)}
theorem trimW {ft : FuncId} (ht : TrimC P G ft) (n : Nat) (hn : wlen n ≤ 9223372036854775807) : VP P G ft [W n] (W n) := by
  have := ht (digits n) (digits_wd n) hn
  rw [val_digits] at this; exact this
def SignedC (P : Program) (G : Nat → Option (List AV)) (f : FuncId) : Prop := ∀ (neg : Bool) (n : Nat), wlen n ≤ 9223372036854775807 → VP P G f [.bool neg, W n] (IV (sgn neg n))
theorem signedC_ok {f ft : FuncId} (h : Has P f (w_integer_signed ft)) (ht : TrimC P G ft) : SignedC P G f := fun neg n hn => by
  have := signed_ok h ht neg (digits_wd n) hn
  rw [val_digits] at this; exact this
theorem sign_ok {f ft : FuncId} (h : Has P f (w_integer_Sign ft)) (ht : TrimC P G ft) (z : Int) (hz : wlen z.natAbs ≤ 1000000) : VP P G f [IV z] (.int .i64 z.sign) := by
  refine VP.has h ?_
  have hl : wlen z.natAbs = 0 ↔ z = 0 := by rw [wlen_pos_iff]; omega
  simp only [w_integer_Sign, SS, Nat.reduceAdd, reduceIte, IV_one, load_put, IV_p1]
  refine vsCall_VP (trimW ht z.natAbs (by omega)) (by simp [W_pure]) ?_
  simp only [SS, Nat.reduceAdd, reduceIte, W_len]
  by_cases h0 : z = 0
  · have d0 : decide ((wlen z.natAbs : Int) = 0) = true := dec_true (by have := hl.2 h0; omega)
    simp only [SS, Nat.reduceAdd, reduceIte, d0]
    rw [h0]
    exact retQ_ret ▸ retQ_of_pure rfl (PureAV.int _ _)
  · have d0 : decide ((wlen z.natAbs : Int) = 0) = false := dec_false (by have := fun e => h0 (hl.1 e); omega)
    by_cases hn : z < 0
    · have d1 : decide (z < 0) = true := dec_true hn
      simp only [SS, Nat.reduceAdd, reduceIte, d0, IV_one, load_put, IV_p0, d1]
      rw [Int.sign_eq_neg_one_of_neg hn]
      exact retQ_ret ▸ retQ_of_pure rfl (PureAV.int _ _)
    · have d1 : decide (z < 0) = false := dec_false hn
      simp only [SS, Nat.reduceAdd, reduceIte, d0, IV_one, load_put, IV_p0, d1]
      rw [Int.sign_eq_one_of_pos (by omega)]
      exact retQ_ret ▸ retQ_of_pure rfl (PureAV.int _ _)
theorem wlen_small (n : Nat) (hn : n < 18446744073709551616) : wlen n ≤ 2 := wlen_le (by unfold B32; omega)
theorem fromInt_ok {f fu fs : FuncId} (h : Has P f (w_integer_FromInt fu fs)) (hu : ∀ n, n < 18446744073709551616 → VP P G fu [.int .u64 ((n : Nat) : Int)] (W n)) (hs : SignedC P G fs) (a : Int) (h1 : -9223372036854775808 ≤ a) (h2 : a < 9223372036854775808) : VP P G f [.int .i64 a] (IV a) := by
  refine VP.has h ?_
  have hsz := wlen_small a.natAbs (by omega)
  have hs' := hs (decide (a < 0)) a.natAbs (by omega)
  rw [sgn_self] at hs'
  have hu' := hu a.natAbs (by omega)
  simp only [w_integer_FromInt, SS, Nat.reduceAdd, reduceIte, zeroI_one]
  by_cases hn : a < 0
  · have d1 : decide (a < 0) = true := dec_true hn
    rw [d1] at hs'
    have e1 : IntKind.u64.wrap (0 - (IntKind.u64.wrap a)) = (a.natAbs : Int) := by rw [IntKind.wrap_u64, IntKind.wrap_u64]; omega
    simp only [SS, Nat.reduceAdd, reduceIte, d1, e1]
    refine vsCall_VP hu' (by simp [PureAV.int]) ?_
    simp only [SS, Nat.reduceAdd, reduceIte, d1]
    refine vsCall_VP hs' (by simp [PureAV.bool, W_pure]) ?_
    simp only [SS, Nat.reduceAdd, reduceIte, store_IV]
    refine retQ_ret ▸ retQ_of_pure (r := IV a) ?_ (IV_pure _)
    simp only [RS, outAV, resAV, load_put]; rfl
  · have d1 : decide (a < 0) = false := dec_false hn
    rw [d1] at hs'
    have e1 : IntKind.u64.wrap a = (a.natAbs : Int) := by rw [IntKind.wrap_u64]; omega
    simp only [SS, Nat.reduceAdd, reduceIte, d1, e1]
    refine vsCall_VP hu' (by simp [PureAV.int]) ?_
    simp only [SS, Nat.reduceAdd, reduceIte, d1]
    refine vsCall_VP hs' (by simp [PureAV.bool, W_pure]) ?_
    simp only [SS, Nat.reduceAdd, reduceIte, store_IV]
    refine retQ_ret ▸ retQ_of_pure (r := IV a) ?_ (IV_pure _)
    simp only [RS, outAV, resAV, load_put]; rfl
theorem neg_ok {f ft fc fs : FuncId} (h : Has P f (w_integer_Neg ft fc fs)) (ht : TrimC P G ft) (hc : ∀ n, wlen n ≤ 1000000 → VP P G fc [W n] (W n)) (hs : SignedC P G fs) (z : Int) (hz : wlen z.natAbs ≤ 1000000) : VP P G f [IV z] (IV (-z)) := by
  refine VP.has h ?_
  have hs' := hs (!decide (z < 0)) z.natAbs (by omega)
  rw [sgn_neg] at hs'
  simp only [w_integer_Neg, SS, DD, Nat.reduceAdd, reduceIte, IV_one, zeroI_one, load_skip (show ([0] : List Nat) ≠ [1] by decide), load_put, IV_p0, IV_p1]
  refine vdCall_VP (trimW ht z.natAbs (by omega)) (by simp [W_pure]) ?_
  simp only [SS, DD, Nat.reduceAdd, reduceIte]
  refine vdCall_VP (hc z.natAbs hz) (by simp [W_pure]) ?_
  simp only [SS, DD, Nat.reduceAdd, reduceIte]
  refine vdCall_VP hs' (by simp [PureAV.bool, W_pure]) ?_
  simp only [SS, DD, Nat.reduceAdd, reduceIte, store_IV]
  refine ⟨by simp [allApart, apart], ?_⟩
  refine retQ_ret ▸ retQ_of_pure (r := IV (-z)) ?_ (IV_pure _)
  simp only [RS, outAV, resAV, load_put]; rfl
theorem mul_ok {f ft fm fs : FuncId} (h : Has P f (w_integer_Mul ft fm fs)) (ht : TrimC P G ft) (hm : ∀ m n, wlen m ≤ 1000000 → wlen n ≤ 1000000 → VP P G fm [W m, W n] (W (m * n))) (hs : SignedC P G fs) (y z : Int) (hy : wlen y.natAbs ≤ 1000000) (hz : wlen z.natAbs ≤ 1000000) : VP P G f [IV y, IV z] (IV (y * z)) := by
  refine VP.has h ?_
  have hs' := hs (!(decide (y < 0) == decide (z < 0))) (y.natAbs * z.natAbs) (by have := wlen_mul y.natAbs z.natAbs; omega)
  rw [sgn_mul] at hs'
  simp only [w_integer_Mul, SS, DD, Nat.reduceAdd, reduceIte, IV_one, zeroI_one, load_skip (show ([0] : List Nat) ≠ [1] by decide), load_skip (show ([0] : List Nat) ≠ [2] by decide), load_skip (show ([1] : List Nat) ≠ [2] by decide), load_put, IV_p0, IV_p1]
  refine vdCall_VP (trimW ht y.natAbs (by omega)) (by simp [W_pure]) ?_
  simp only [SS, DD, Nat.reduceAdd, reduceIte, load_skip (show ([1] : List Nat) ≠ [2] by decide), load_put, IV_p0, IV_p1]
  refine vdCall_VP (trimW ht z.natAbs (by omega)) (by simp [W_pure]) ?_
  simp only [SS, DD, Nat.reduceAdd, reduceIte]
  refine vdCall_VP (hm y.natAbs z.natAbs hy hz) (by simp [W_pure]) ?_
  simp only [SS, DD, Nat.reduceAdd, reduceIte]
  refine vdCall_VP hs' (by simp [PureAV.bool, W_pure]) ?_
  simp only [SS, DD, Nat.reduceAdd, reduceIte, store_IV]
  refine ⟨by simp [allApart, apart], ?_⟩
  refine retQ_ret ▸ retQ_of_pure (r := IV (y * z)) ?_ (IV_pure _)
  simp only [RS, outAV, resAV, load_put]; rfl
end
end Go.VL
end

section
set_option linter.unusedSimpArgs false
namespace Go.VL
theorem cmpI_cases (a b : Int) : cmpI a b = -1 ∧ a < b ∨ cmpI a b = 0 ∧ a = b ∨ cmpI a b = 1 ∧ b < a := by
  unfold cmpI
  by_cases h1 : a < b
  · simp [h1]
  · by_cases h2 : b < a
    · simp [h1, h2]
    · right; left; simp [h1, h2]; omega
theorem sign_cases (z : Int) : z.sign = -1 ∧ z < 0 ∨ z.sign = 0 ∧ z = 0 ∨ z.sign = 1 ∧ 0 < z := by
  rcases Int.lt_trichotomy z 0 with h | h | h
  · exact .inl ⟨Int.sign_eq_neg_one_of_neg h, h⟩
  · exact .inr (.inl ⟨by rw [h]; rfl, h⟩)
  · exact .inr (.inr ⟨Int.sign_eq_one_of_pos h, h⟩)
theorem cmp_signs {y z : Int} (h : y.sign ≠ z.sign) : cmpI y.sign z.sign = cmpI y z := by
  rcases cmpI_cases y z with ⟨e, c⟩ | ⟨e, c⟩ | ⟨e, c⟩ <;> rcases cmpI_cases y.sign z.sign with ⟨e2, c2⟩ | ⟨e2, c2⟩ | ⟨e2, c2⟩ <;> rcases sign_cases y with ⟨s, p⟩ | ⟨s, p⟩ | ⟨s, p⟩ <;> rcases sign_cases z with ⟨s2, p2⟩ | ⟨s2, p2⟩ | ⟨s2, p2⟩ <;> omega
theorem cmp_abs {y z : Int} (h : y.sign = z.sign) : y.sign * cmpN y.natAbs z.natAbs = cmpI y z := by
  unfold cmpN
  rcases cmpI_cases y z with ⟨e, c⟩ | ⟨e, c⟩ | ⟨e, c⟩ <;> rcases cmpI_cases (y.natAbs : Int) (z.natAbs : Int) with ⟨e2, c2⟩ | ⟨e2, c2⟩ | ⟨e2, c2⟩ <;> rcases sign_cases y with ⟨s, p⟩ | ⟨s, p⟩ | ⟨s, p⟩ <;> rcases sign_cases z with ⟨s2, p2⟩ | ⟨s2, p2⟩ | ⟨s2, p2⟩ <;> rw [s, e2, e] <;> omega
section
variable {P : Program} {G : Nat → Option (List AV)}
theorem cmp_ok {f fsg fci ft fc : FuncId} (h : Has P f (w_integer_Cmp fsg fci ft fc)) (hsg : ∀ z : Int, wlen z.natAbs ≤ 1000000 → VP P G fsg [IV z] (.int .i64 z.sign)) (hci : ∀ a b : Int, VP P G fci [.int .i64 a, .int .i64 b] (.int .i64 (cmpI a b))) (ht : TrimC P G ft)
    (hc : ∀ m n, wlen m ≤ 1000000 → wlen n ≤ 1000000 → VP P G fc [W m, W n] (.int .i64 (cmpN m n))) (y z : Int) (hy : wlen y.natAbs ≤ 1000000) (hz : wlen z.natAbs ≤ 1000000) : VP P G f [IV y, IV z] (.int .i64 (cmpI y z)) := by
  refine VP.has h ?_
  simp only [w_integer_Cmp, SS, DD, Nat.reduceAdd, reduceIte, IV_one, load_skip (show ([0] : List Nat) ≠ [1] by decide), load_put, IV_all]
  refine vdCall_VP (hsg y hy) (by simp [IV_pure]) ?_
  simp only [SS, DD, Nat.reduceAdd, reduceIte, load_put, IV_all]
  refine vdCall_VP (hsg z hz) (by simp [IV_pure]) ?_
  simp only [SS, DD, Nat.reduceAdd, reduceIte]
  refine ⟨by simp [allApart, apart], ?_⟩
  by_cases hs : y.sign = z.sign
  · have d0 : decide (y.sign ≠ z.sign) = false := dec_false (by simpa using hs)
    have e1 : IntKind.i64.wrap (y.sign * cmpN y.natAbs z.natAbs) = cmpI y z := by
      rw [cmp_abs hs, IntKind.wrap_i64]
      rcases cmpI_cases y z with ⟨e, _⟩ | ⟨e, _⟩ | ⟨e, _⟩ <;> rw [e] <;> omega
    simp only [SS, DD, Nat.reduceAdd, reduceIte, d0, load_skip (show ([0] : List Nat) ≠ [1] by decide), load_put, IV_p1]
    refine vdCall_VP (trimW ht y.natAbs (by omega)) (by simp [W_pure]) ?_
    simp only [SS, DD, Nat.reduceAdd, reduceIte, load_put, IV_p1]
    refine vdCall_VP (trimW ht z.natAbs (by omega)) (by simp [W_pure]) ?_
    simp only [SS, DD, Nat.reduceAdd, reduceIte]
    refine vdCall_VP (hc y.natAbs z.natAbs hy hz) (by simp [W_pure]) ?_
    simp only [SS, DD, Nat.reduceAdd, reduceIte, e1]
    refine ⟨by simp [allApart, apart], ?_⟩
    exact retQ_ret ▸ retQ_of_pure rfl (PureAV.int _ _)
  · have d0 : decide (y.sign ≠ z.sign) = true := dec_true hs
    simp only [SS, DD, Nat.reduceAdd, reduceIte, d0]
    refine vsCall_VP (hci y.sign z.sign) (by simp [PureAV.int]) ?_
    simp only [SS, DD, Nat.reduceAdd, reduceIte]
    rw [cmp_signs hs]
    exact retQ_ret ▸ retQ_of_pure rfl (PureAV.int _ _)
end
end Go.VL
end

section
set_option linter.unusedSimpArgs false
namespace Go.VL
def RV (a b : Int) : AV := .agg [.bool (decide (a < 0)), W a.natAbs, .bool (decide (b < 0)), W b.natAbs]
theorem RV_pure (a b : Int) : PureAV (RV a b) := PureAV.agg (by intro c hc; simp at hc; rcases hc with rfl | rfl | rfl | rfl; exact PureAV.bool _; exact W_pure _; exact PureAV.bool _; exact W_pure _)
theorem RV_one (a b : Int) : ((RV a b).cells.all AV.one = true) = True := by simp [RV, AV.cells, AV.one, W]
theorem RV_p0 (a b : Int) : part true (RV a b).cells 0 2 = some (IV a) := rfl
theorem RV_p2 (a b : Int) : part true (RV a b).cells 2 2 = some (IV b) := rfl
theorem zeroR_one : ((AV.cells (.agg [(.bool false), .nils, (.bool false), .nils])).all AV.one = true) = True := by simp [AV.cells, AV.one]
theorem store_RV (σ : Store) (id : Id) (k : Nat) (a b : Int) : vstore (σ.put id (some ⟨[.agg [.bool false, .nils, .bool false, .nils]], k, false⟩)) 4 (.ref id 0 0) (RV a b) = some { val := .tup [], rd := [id], up := [(id, some ⟨[RV a b], k, false⟩)] } := by
  rw [vstore_at (n := 4) (v := RV a b) (els := [.agg [.bool false, .nils, .bool false, .nils]]) (k := k) (Store.put_same _ _ _) rfl rfl (by simp [AV.size, AV.cells]) rfl]
  rfl
theorem fill_RV (a b : Int) : vfill [.bool false, .nils, .bool false, .nils] [(0, (2, IV a)), (2, (2, IV b))] = some [.bool (decide (a < 0)), W a.natAbs, .bool (decide (b < 0)), W b.natAbs] := rfl
section
variable {P : Program} {G : Nat → Option (List AV)}
theorem one_ok {f fi : FuncId} (h : Has P f (w_rational_one fi)) (hi : VP P G fi [.int .i64 1] (IV 1)) : VP P G f [] (IV 1) := by
  refine VP.has h ?_
  simp only [w_rational_one, SS, Nat.reduceAdd, reduceIte, zeroI_one]
  refine vsCall_VP hi (by simp [PureAV.int]) ?_
  simp only [SS, Nat.reduceAdd, reduceIte, store_IV]
  refine retQ_ret ▸ retQ_of_pure (r := IV 1) ?_ (IV_pure _)
  simp only [RS, outAV, resAV, load_put]; rfl
theorem rfromInt_ok {f fi fo : FuncId} (h : Has P f (w_rational_FromInt fi fo)) (a : Int) (hi : VP P G fi [.int .i64 a] (IV a)) (ho : VP P G fo [] (IV 1)) : VP P G f [.int .i64 a] (RV a 1) := by
  refine VP.has h ?_
  have e : (AV.agg [.bool (decide (a < 0)), W a.natAbs, .bool (decide ((1 : Int) < 0)), W (1 : Int).natAbs]) = RV a 1 := rfl
  simp only [w_rational_FromInt, SS, Nat.reduceAdd, reduceIte, zeroR_one]
  refine vsCall_VP hi (by simp [PureAV.int]) ?_
  simp only [SS, Nat.reduceAdd, reduceIte]
  refine vsCall_VP ho (by simp) ?_
  simp only [SS, Nat.reduceAdd, reduceIte, fill_RV, e, store_RV]
  refine retQ_ret ▸ retQ_of_pure (r := RV a 1) ?_ (RV_pure _ _)
  simp only [RS, outAV, resAV, load_put]; rfl
theorem rsign_ok {f fi : FuncId} (h : Has P f (w_rational_Sign fi)) (a b : Int) (hi : VP P G fi [IV a] (.int .i64 a.sign)) : VP P G f [RV a b] (.int .i64 a.sign) := by
  refine VP.has h ?_
  simp only [w_rational_Sign, SS, Nat.reduceAdd, reduceIte, RV_one, load_put, RV_p0]
  refine vsCall_VP hi (by simp [IV_pure]) ?_
  simp only [SS, Nat.reduceAdd, reduceIte]
  exact retQ_ret ▸ retQ_of_pure rfl (PureAV.int _ _)
theorem isOne_ok {f : FuncId} (h : Has P f w_rational_isOne) (z : Int) : VP P G f [IV z] (.bool (decide (z = 1))) := by
  refine VP.has h ?_
  have hl : wlen z.natAbs = 1 → ∃ w, digits z.natAbs = [w] := fun h => List.length_eq_one_iff.1 h
  have h11 : wlen 1 = 1 := by unfold wlen; rw [digits_pos (by decide), show 1 / B32 = 0 from rfl, digits_zero]; rfl
  simp only [w_rational_isOne, SS, Nat.reduceAdd, reduceIte, IV_one, load_put, IV_p0]
  by_cases hn : z < 0
  · have d0 : decide (z < 0) = true := dec_true hn
    have e : decide (z = 1) = false := dec_false (by omega)
    simp only [SS, Nat.reduceAdd, reduceIte, d0, Bool.not_true, e]
    exact retQ_ret ▸ retQ_of_pure rfl (PureAV.bool _)
  · have d0 : decide (z < 0) = false := dec_false hn
    by_cases h1 : wlen z.natAbs = 1
    · have d1 : decide ((wlen z.natAbs : Int) = 1) = true := dec_true (by omega)
      obtain ⟨w, hw⟩ := hl h1
      have hg : (digits z.natAbs)[0]? = some w := by rw [hw]; rfl
      have hix : viaddrS 1 (W z.natAbs) (.int .i64 0) = some (.ep (AV.int .u32 (w : Int)).cells 0) := iaddrS_sl (i := 0) rfl (us_get hg)
      have hv : z.natAbs = w := by have := val_digits z.natAbs; rw [hw] at this; simp [val] at this; omega
      have e : decide ((w : Int) = 1) = decide (z = 1) := by congr 1; apply propext; omega
      simp only [SS, Nat.reduceAdd, reduceIte, d0, Bool.not_false, load_put, IV_p0, IV_p1, W_len, d1, hix, vload_ep, part_int, e]
      exact retQ_ret ▸ retQ_of_pure rfl (PureAV.bool _)
    · have d1 : decide ((wlen z.natAbs : Int) = 1) = false := dec_false (by omega)
      have e : decide (z = 1) = false := dec_false (by intro e; rw [e] at h1; exact h1 h11)
      simp only [SS, Nat.reduceAdd, reduceIte, d0, Bool.not_false, load_put, IV_p0, IV_p1, W_len, d1, e]
      exact retQ_ret ▸ retQ_of_pure rfl (PureAV.bool _)
end
end Go.VL
end

section
set_option linter.unusedSimpArgs false
namespace Go.VL
theorem store_IV' {σ : Store} {id : Id} {k : Nat} {z : Int} {y : AV} (hs : y.size = 2) (hu : y.upd 0 (IV z).cells = IV z) (h : σ id = some ⟨[y], k, false⟩) : vstore σ 2 (.ref id 0 0) (IV z) = some { val := .tup [], rd := [id], up := [(id, some ⟨[IV z], k, false⟩)] } := by
  rw [vstore_at (n := 2) (v := IV z) h rfl rfl (by rw [hs]; exact Nat.le_refl _) rfl]
  simp [hu]
theorem IV_upd (y z : Int) : (IV y).upd 0 (IV z).cells = IV z := rfl
theorem Z_upd (z : Int) : (AV.agg [.bool false, .nils]).upd 0 (IV z).cells = IV z := rfl
theorem load_IV {σ : Store} {id : Id} {k : Nat} {z : Int} {b : Bool} (h : σ id = some ⟨[IV z], k, b⟩) : vload σ true 2 (.ref id 0 0) = some { val := IV z, rd := [id] } := by
  rw [vload_ref h (el := IV z) rfl, IV_all]; rfl
theorem tup3_0 {α : Type} {a b c : α} : [a, b, c][0]? = some a := rfl
theorem tup3_1 {α : Type} {a b c : α} : [a, b, c][1]? = some b := rfl
theorem tup3_2 {α : Type} {a b c : α} : [a, b, c][2]? = some c := rfl
section
variable {P : Program} {G : Nat → Option (List AV)}
theorem quo_ok {f fo fd : FuncId} (h : Has P f (w_rational_quo fo fd)) (a b : Int) (ho : VP P G fo [IV b] (.bool (decide (b = 1)))) (hd : VP P G fd [IV a, IV b] (.tup [IV (a.fdiv b), IV (a.fmod b), .int .i64 0])) : VP P G f [IV a, IV b] (IV (a.fdiv b)) := by
  refine VP.has h ?_
  simp only [w_rational_quo, SS, Nat.reduceAdd, reduceIte, IV_one, zeroI_one, load_skip (show ([1] : List Nat) ≠ [2] by decide), load_put, IV_all]
  refine vsCall_VP ho (by simp [IV_pure]) ?_
  by_cases h1 : b = 1
  · have d1 : decide (b = 1) = true := dec_true h1
    have e : a.fdiv b = a := by rw [h1, Int.fdiv_one]
    simp only [SS, Nat.reduceAdd, reduceIte, d1, load_skip (show ([0] : List Nat) ≠ [2] by decide), load_skip (show ([0] : List Nat) ≠ [1] by decide), load_put, IV_all]
    rw [store_IV' (k := (AV.agg [.bool false, .nils]).size) (y := .agg [.bool false, .nils]) rfl (Z_upd _) (by simp [Store.put])]
    simp only [SS, Nat.reduceAdd, reduceIte, e]
    refine retQ_ret ▸ retQ_of_pure (r := IV a) ?_ (IV_pure _)
    simp only [RS, outAV, resAV, load_put]; rfl
  · have d1 : decide (b = 1) = false := dec_false h1
    simp only [SS, Nat.reduceAdd, reduceIte, d1, load_skip (show ([0] : List Nat) ≠ [2] by decide), load_skip (show ([0] : List Nat) ≠ [1] by decide), load_skip (show ([1] : List Nat) ≠ [2] by decide), load_put, IV_all]
    refine vsCall_VP hd (by simp [IV_pure]) ?_
    simp only [SS, Nat.reduceAdd, reduceIte, zeroI_one, tup3_0, tup3_1, tup3_2]
    rw [store_IV' (k := (AV.agg [.bool false, .nils]).size) (y := .agg [.bool false, .nils]) rfl (Z_upd _) (by simp [Store.put])]
    simp only [SS, Nat.reduceAdd, reduceIte]
    rw [store_IV' (k := (AV.agg [.bool false, .nils]).size) (y := .agg [.bool false, .nils]) rfl (Z_upd _) (by simp [Store.put])]
    simp only [SS, Nat.reduceAdd, reduceIte]
    rw [load_IV (z := a.fdiv b) (k := (AV.agg [.bool false, .nils]).size) (b := false) (by simp [Store.put])]
    simp only [SS, Nat.reduceAdd, reduceIte]
    rw [store_IV' (k := (AV.agg [.bool false, .nils]).size) (y := .agg [.bool false, .nils]) rfl (Z_upd _) (by simp [Store.put])]
    simp only [SS, Nat.reduceAdd, reduceIte]
    refine retQ_ret ▸ retQ_of_pure (r := IV (a.fdiv b)) ?_ (IV_pure _)
    simp only [RS, outAV, resAV, load_put]; rfl
end
end Go.VL
end

section
set_option linter.unusedSimpArgs false
namespace Go.VL
def dms (a b : Int) : Bool := !(decide (a < 0) == decide (b < 0))
def dmq (a b : Int) : Nat := if dms a b = true ∧ 0 < a.natAbs % b.natAbs then a.natAbs / b.natAbs + 1 else a.natAbs / b.natAbs
def dmr (a b : Int) : Nat := if dms a b = true ∧ 0 < a.natAbs % b.natAbs then b.natAbs - a.natAbs % b.natAbs else a.natAbs % b.natAbs
theorem digits_one : digits 1 = [1] := by rw [digits_pos (by decide), show 1 / B32 = 0 from rfl, digits_zero]; rfl
theorem view_one {id : Id} {b t : Bool} : View (Store.of [(id, ⟨us [1], 1, b⟩)]) (.osl id 1 0 1 t) (W 1) := by
  unfold W; rw [digits_one]; exact view_us rfl
theorem wlen_div (m n : Nat) : wlen (m / n) ≤ wlen m := wlen_mono (Nat.div_le_self _ _)
theorem wlen_mod (m n : Nat) : wlen (m % n) ≤ wlen m := wlen_mono (Nat.mod_le _ _)
theorem wlen_succ (m : Nat) : wlen (m + 1) ≤ wlen m + 1 := wlen_le (by
  have h1 := lt_pow_wlen m
  rw [Nat.pow_succ]
  have h2 : B32 ^ wlen m * 2 ≤ B32 ^ wlen m * B32 := Nat.mul_le_mul_left _ (by decide)
  omega)
theorem wlen_one : wlen 1 ≤ 1 := by unfold wlen; rw [digits_one]; decide
theorem tup2_0 {α : Type} {a b : α} : [a, b][0]? = some a := rfl
theorem tup2_1 {α : Type} {a b : α} : [a, b][1]? = some b := rfl
section
variable {P : Program} {G : Nat → Option (List AV)}
theorem divMod_ok {f ft fd fp fm fs : FuncId} (h : Has P f (w_integer_DivMod ft fd fp fm fs)) (ht : TrimC P G ft) (hd : ∀ m n, n ≠ 0 → wlen m ≤ 900000 → wlen n ≤ 900000 → VP P G fd [W m, W n] (.tup [W (m / n), W (m % n)]))
    (hp : ∀ m n, wlen m ≤ 1000000 → wlen n ≤ 1000000 → VP P G fp [W m, W n] (W (m + n))) (hm : ∀ m n, n ≤ m → wlen m ≤ 1000000 → VP P G fm [W m, W n] (W (m - n))) (hs : SignedC P G fs) (a b : Int) (hb0 : b ≠ 0) (ha : wlen a.natAbs ≤ 900000) (hb : wlen b.natAbs ≤ 900000) :
    VP P G f [IV a, IV b] (.tup [IV (sgn (dms a b) (dmq a b)), IV (sgn (decide (b < 0)) (dmr a b)), .int .i64 0]) := by
  refine VP.has h ?_
  have hbn : b.natAbs ≠ 0 := by omega
  have hwb : wlen b.natAbs ≠ 0 := fun e => hbn (wlen_pos_iff.1 e)
  have d0 : decide ((wlen b.natAbs : Int) = 0) = false := dec_false (by omega)
  have w1 := wlen_div a.natAbs b.natAbs
  have w2 := wlen_mod a.natAbs b.natAbs
  have w3 := wlen_succ (a.natAbs / b.natAbs)
  have w4 : wlen (b.natAbs - a.natAbs % b.natAbs) ≤ wlen b.natAbs := wlen_mono (Nat.sub_le _ _)
  have w5 := wlen_one
  have hmod : a.natAbs % b.natAbs < b.natAbs := Nat.mod_lt _ (Nat.pos_of_ne_zero hbn)
  have hpv := hp (a.natAbs / b.natAbs) 1 (by omega) (by omega)
  have hmv := hm b.natAbs (a.natAbs % b.natAbs) (Nat.le_of_lt hmod) (by omega)
  have dpos : 0 < a.natAbs % b.natAbs → decide ((0 : Int) < (wlen (a.natAbs % b.natAbs) : Int)) = true := fun h => dec_true (by
    have : wlen (a.natAbs % b.natAbs) ≠ 0 := fun e => by have := wlen_pos_iff.1 e; omega
    omega)
  have dzero : ¬ 0 < a.natAbs % b.natAbs → decide ((0 : Int) < (wlen (a.natAbs % b.natAbs) : Int)) = false := fun h => dec_false (by
    have : wlen (a.natAbs % b.natAbs) = 0 := wlen_pos_iff.2 (by omega)
    omega)
  have k01 : ([0] : List Nat) ≠ [1] := by decide
  have k02 : ([0] : List Nat) ≠ [2] := by decide
  have k03 : ([0] : List Nat) ≠ [3] := by decide
  have k12 : ([1] : List Nat) ≠ [2] := by decide
  have k13 : ([1] : List Nat) ≠ [3] := by decide
  have hfin : ∀ (q r : Nat), q = dmq a b → r = dmr a b → wlen q ≤ 1000000 → wlen r ≤ 1000000 → VP P G fs [.bool (dms a b), W q] (IV (sgn (dms a b) (dmq a b))) ∧ VP P G fs [.bool (decide (b < 0)), W r] (IV (sgn (decide (b < 0)) (dmr a b))) := fun q r hq hr h1 h2 => by
    subst hq; subst hr
    exact ⟨hs _ _ (by omega), hs _ _ (by omega)⟩
  simp only [w_integer_DivMod, SS, DD, Nat.reduceAdd, reduceIte, IV_one, zeroI_one, load_skip k01, load_skip k02, load_skip k03, load_skip k12, load_skip k13, load_put, IV_p0, IV_p1]
  refine vsCall_VP (trimW ht b.natAbs (by omega)) (by simp [W_pure]) ?_
  simp only [SS, DD, Nat.reduceAdd, reduceIte, W_len, d0, load_skip k01, load_skip k02, load_skip k03, load_skip k12, load_skip k13, load_put, IV_p0, IV_p1]
  refine vsCall_VP (trimW ht a.natAbs (by omega)) (by simp [W_pure]) ?_
  simp only [SS, DD, Nat.reduceAdd, reduceIte]
  refine vsCall_VP (hd a.natAbs b.natAbs hbn ha hb) (by simp [W_pure]) ?_
  simp only [SS, DD, Nat.reduceAdd, reduceIte, tup2_0, tup2_1, load_skip k01, load_skip k02, load_skip k03, load_skip k12, load_skip k13, load_put, IV_p0, IV_p1]
  have hnb : (!(decide (a < 0) == decide (b < 0))) = dms a b := rfl
  simp only [hnb]
  have hbs : ∀ (σ : Store) (q : Id), vop σ q (.buildSl 1 1 (.int .u32 0) [(0, .int .u32 1)]) = some { val := .osl q 1 0 1 false, up := [(q, some ⟨us [1], 1, false⟩)] } := fun σ q => bs_us (x := 1)
  have k23 : ([2] : List Nat) ≠ [3] := by decide
  have k0b : ([0] : List Nat) ≠ [33] := by decide
  have k1b : ([1] : List Nat) ≠ [33] := by decide
  by_cases hsg : dms a b = true
  · by_cases hr : 0 < a.natAbs % b.natAbs
    · have d1 := dpos hr
      obtain ⟨g1, g2⟩ := hfin (a.natAbs / b.natAbs + 1) (b.natAbs - a.natAbs % b.natAbs) (by unfold dmq; rw [if_pos ⟨hsg, hr⟩]) (by unfold dmr; rw [if_pos ⟨hsg, hr⟩]) (by omega) (by omega)
      rw [hsg] at g1
      simp only [SS, DD, Nat.reduceAdd, reduceIte, hsg, W_len, d1, hbs]
      refine vsCall_view [([33], ⟨us [1], 1, false⟩)] hpv (ViewL.cons (View.pure (W_pure _)) (ViewL.cons view_one ViewL.nil)) (by simp [Store.put]) ?_
      simp only [SS, DD, Nat.reduceAdd, reduceIte]
      refine vsCall_VP hmv (by simp [W_pure]) ?_
      simp only [SS, DD, Nat.reduceAdd, reduceIte, Store.app, frz, List.map_cons, List.map_nil, load_skip k01, load_skip k02, load_skip k03, load_skip k12, load_skip k13, load_skip k0b, load_skip k1b, load_put, IV_p0, IV_p1, hnb, hsg]
      refine vdCall_VP g1 (by simp [PureAV.bool, W_pure]) ?_
      simp only [SS, DD, Nat.reduceAdd, reduceIte, load_skip k12, load_skip k13, load_skip k1b, load_put, IV_p0]
      refine vdCall_VP g2 (by simp [PureAV.bool, W_pure]) ?_
      simp only [SS, DD, Nat.reduceAdd, reduceIte]
      rw [store_IV' (k := (AV.agg [.bool false, .nils]).size) (y := .agg [.bool false, .nils]) rfl (Z_upd _) (by simp [Store.put])]
      simp only [SS, DD, Nat.reduceAdd, reduceIte]
      rw [store_IV' (k := (AV.agg [.bool false, .nils]).size) (y := .agg [.bool false, .nils]) rfl (Z_upd _) (by simp [Store.put])]
      simp only [SS, DD, Nat.reduceAdd, reduceIte]
      refine ⟨by simp [allApart, apart], ?_⟩
      refine retQ_ret ▸ retQ_of_pure (r := .tup [IV (sgn true (dmq a b)), IV (sgn (decide (b < 0)) (dmr a b)), .int .i64 0]) ?_ (PureAV.tup (by intro c hc; simp at hc; rcases hc with rfl | rfl | rfl; exact IV_pure _; exact IV_pure _; exact PureAV.int _ _))
      simp only [RS, outAV, resAV, load_skip k23, load_put, IV_all]
    · have d1 := dzero hr
      obtain ⟨g1, g2⟩ := hfin (a.natAbs / b.natAbs) (a.natAbs % b.natAbs) (by unfold dmq; rw [if_neg (fun e => hr e.2)]) (by unfold dmr; rw [if_neg (fun e => hr e.2)]) (by omega) (by omega)
      rw [hsg] at g1
      simp only [SS, DD, Nat.reduceAdd, reduceIte, hsg, W_len, d1]
      simp only [SS, DD, Nat.reduceAdd, reduceIte, Store.app, frz, List.map_cons, List.map_nil, load_skip k01, load_skip k02, load_skip k03, load_skip k12, load_skip k13, load_skip k0b, load_skip k1b, load_put, IV_p0, IV_p1, hnb, hsg]
      refine vdCall_VP g1 (by simp [PureAV.bool, W_pure]) ?_
      simp only [SS, DD, Nat.reduceAdd, reduceIte, load_skip k12, load_skip k13, load_skip k1b, load_put, IV_p0]
      refine vdCall_VP g2 (by simp [PureAV.bool, W_pure]) ?_
      simp only [SS, DD, Nat.reduceAdd, reduceIte]
      rw [store_IV' (k := (AV.agg [.bool false, .nils]).size) (y := .agg [.bool false, .nils]) rfl (Z_upd _) (by simp [Store.put])]
      simp only [SS, DD, Nat.reduceAdd, reduceIte]
      rw [store_IV' (k := (AV.agg [.bool false, .nils]).size) (y := .agg [.bool false, .nils]) rfl (Z_upd _) (by simp [Store.put])]
      simp only [SS, DD, Nat.reduceAdd, reduceIte]
      refine ⟨by simp [allApart, apart], ?_⟩
      refine retQ_ret ▸ retQ_of_pure (r := .tup [IV (sgn true (dmq a b)), IV (sgn (decide (b < 0)) (dmr a b)), .int .i64 0]) ?_ (PureAV.tup (by intro c hc; simp at hc; rcases hc with rfl | rfl | rfl; exact IV_pure _; exact IV_pure _; exact PureAV.int _ _))
      simp only [RS, outAV, resAV, load_skip k23, load_put, IV_all]
  · have hsf : dms a b = false := by simpa using hsg
    obtain ⟨g1, g2⟩ := hfin (a.natAbs / b.natAbs) (a.natAbs % b.natAbs) (by unfold dmq; rw [if_neg (fun e => hsg e.1)]) (by unfold dmr; rw [if_neg (fun e => hsg e.1)]) (by omega) (by omega)
    rw [hsf] at g1
    simp only [SS, DD, Nat.reduceAdd, reduceIte, hsf]
    simp only [SS, DD, Nat.reduceAdd, reduceIte, Store.app, frz, List.map_cons, List.map_nil, load_skip k01, load_skip k02, load_skip k03, load_skip k12, load_skip k13, load_skip k0b, load_skip k1b, load_put, IV_p0, IV_p1, hnb, hsf]
    refine vdCall_VP g1 (by simp [PureAV.bool, W_pure]) ?_
    simp only [SS, DD, Nat.reduceAdd, reduceIte, load_skip k12, load_skip k13, load_skip k1b, load_put, IV_p0]
    refine vdCall_VP g2 (by simp [PureAV.bool, W_pure]) ?_
    simp only [SS, DD, Nat.reduceAdd, reduceIte]
    rw [store_IV' (k := (AV.agg [.bool false, .nils]).size) (y := .agg [.bool false, .nils]) rfl (Z_upd _) (by simp [Store.put])]
    simp only [SS, DD, Nat.reduceAdd, reduceIte]
    rw [store_IV' (k := (AV.agg [.bool false, .nils]).size) (y := .agg [.bool false, .nils]) rfl (Z_upd _) (by simp [Store.put])]
    simp only [SS, DD, Nat.reduceAdd, reduceIte]
    refine ⟨by simp [allApart, apart], ?_⟩
    refine retQ_ret ▸ retQ_of_pure (r := .tup [IV (sgn false (dmq a b)), IV (sgn (decide (b < 0)) (dmr a b)), .int .i64 0]) ?_ (PureAV.tup (by intro c hc; simp at hc; rcases hc with rfl | rfl | rfl; exact IV_pure _; exact IV_pure _; exact PureAV.int _ _))
    simp only [RS, outAV, resAV, load_skip k23, load_put, IV_all]
end
end Go.VL
end

section
namespace Go.VL
theorem fd_uniq {a b q r : Int} (hb : 0 < b) (h : a = b * q + r) (h0 : 0 ≤ r) (h1 : r < b) : a.fdiv b = q ∧ a.fmod b = r := by
  have := (Int.ediv_emod_unique (a := a) (b := b) (r := r) (q := q) hb).2 ⟨by omega, h0, h1⟩
  rw [Int.fdiv_eq_ediv_of_nonneg _ (Int.le_of_lt hb), Int.fmod_eq_emod_of_nonneg _ (Int.le_of_lt hb)]
  exact this
theorem fd_neg (a b : Int) : a.fdiv b = (-a).fdiv (-b) ∧ a.fmod b = -((-a).fmod (-b)) := by
  have h1 : (-a).fdiv (-b) = a.fdiv b := Int.neg_fdiv_neg a b
  refine ⟨h1.symm, ?_⟩
  have h2 := Int.mul_fdiv_add_fmod a b
  have h3 := Int.mul_fdiv_add_fmod (-a) (-b)
  rw [h1, Int.neg_mul] at h3
  omega
theorem dm_core {m n : Nat} (hn : n ≠ 0) : ((m : Int).fdiv n = (m / n : Nat) ∧ (m : Int).fmod n = (m % n : Nat)) ∧
    (m % n = 0 → (-(m : Int)).fdiv n = -((m / n : Nat) : Int) ∧ (-(m : Int)).fmod n = 0) ∧ (0 < m % n → (-(m : Int)).fdiv n = -((m / n + 1 : Nat) : Int) ∧ (-(m : Int)).fmod n = ((n - m % n : Nat) : Int)) := by
  have hlt : m % n < n := Nat.mod_lt _ (Nat.pos_of_ne_zero hn)
  have e : (m : Int) = (n : Int) * ((m / n : Nat) : Int) + ((m % n : Nat) : Int) := by
    rw [← Int.natCast_mul, ← Int.natCast_add, Nat.div_add_mod]
  generalize m / n = q at *
  generalize m % n = r at *
  refine ⟨fd_uniq (by omega) e (by omega) (by omega), fun h => fd_uniq (by omega) ?_ (by omega) (by omega), fun h => fd_uniq (by omega) ?_ (by omega) (by omega)⟩
  · rw [Int.mul_neg]; omega
  · rw [Int.mul_neg, Int.natCast_add, Int.mul_add]; omega
theorem dm_law (a b : Int) (hb : b ≠ 0) : sgn (dms a b) (dmq a b) = a.fdiv b ∧ sgn (decide (b < 0)) (dmr a b) = a.fmod b := by
  have hbn : b.natAbs ≠ 0 := by omega
  obtain ⟨⟨c1, c2⟩, c3, c4⟩ := dm_core (m := a.natAbs) hbn
  unfold dmq dmr
  by_cases h1 : b < 0
  · have eb : -b = (b.natAbs : Int) := by omega
    obtain ⟨n1, n2⟩ := fd_neg a b
    rw [n1, n2, eb]
    by_cases h2 : a < 0
    · have ea : -a = (a.natAbs : Int) := by omega
      have hd : dms a b = false := by simp [dms, h1, h2]
      rw [ea, c1, c2, hd]
      simp [sgn, h1]
    · have ea : -a = -(a.natAbs : Int) := by omega
      have hd : dms a b = true := by simp [dms, h1, h2]
      rw [ea, hd]
      by_cases hr : 0 < a.natAbs % b.natAbs
      · rw [(c4 hr).1, (c4 hr).2, if_pos ⟨rfl, hr⟩, if_pos ⟨rfl, hr⟩]
        simp [sgn, h1]
      · have h0 : a.natAbs % b.natAbs = 0 := by omega
        rw [(c3 h0).1, (c3 h0).2, if_neg (fun e => hr e.2), if_neg (fun e => hr e.2), h0]
        simp [sgn, h1]
  · have eb : b = (b.natAbs : Int) := by omega
    have hb2 : decide (b < 0) = false := dec_false h1
    by_cases h2 : a < 0
    · have ea : a = -(a.natAbs : Int) := by omega
      have hd : dms a b = true := by simp [dms, h1, h2]
      rw [hd, hb2]
      by_cases hr : 0 < a.natAbs % b.natAbs
      · have q1 := (c4 hr).1
        have q2 := (c4 hr).2
        rw [← ea, ← eb] at q1 q2
        rw [q1, q2, if_pos ⟨rfl, hr⟩, if_pos ⟨rfl, hr⟩]
        exact ⟨rfl, rfl⟩
      · have h0 : a.natAbs % b.natAbs = 0 := by omega
        have q1 := (c3 h0).1
        have q2 := (c3 h0).2
        rw [← ea, ← eb] at q1 q2
        rw [q1, q2, if_neg (fun e => hr e.2), if_neg (fun e => hr e.2), h0]
        exact ⟨rfl, rfl⟩
    · have ea : a = (a.natAbs : Int) := by omega
      have hd : dms a b = false := by simp [dms, h1, h2]
      rw [← ea, ← eb] at c1 c2
      rw [c1, c2, hd, hb2]
      simp [sgn]
end Go.VL
end

section
set_option linter.unusedSimpArgs false
namespace Go.VL
theorem store_RV' {σ : Store} {id : Id} {k : Nat} {a b : Int} (h : σ id = some ⟨[.agg [.bool false, .nils, .bool false, .nils]], k, false⟩) : vstore σ 4 (.ref id 0 0) (RV a b) = some { val := .tup [], rd := [id], up := [(id, some ⟨[RV a b], k, false⟩)] } := by
  rw [vstore_at (n := 4) (v := RV a b) h rfl rfl (by simp [AV.size, AV.cells]) rfl]
  rfl
section
variable {P : Program} {G : Nat → Option (List AV)}
theorem lowest_ok {f fg fn fq : FuncId} (h : Has P f (w_rational_lowest fg fn fq)) (a b g : Int) (hg : VP P G fg [IV a, IV b] (IV g)) (hn : VP P G fn [IV g] (IV (-g)))
    (hq : ∀ x y : Int, (x = a ∨ x = b) → (y = g ∨ y = -g) → VP P G fq [IV x, IV y] (IV (x.fdiv y))) : VP P G f [IV a, IV b] (RV (a.fdiv (if b < 0 then -g else g)) (b.fdiv (if b < 0 then -g else g))) := by
  refine VP.has h ?_
  have k01 : ([0] : List Nat) ≠ [1] := by decide
  have k02 : ([0] : List Nat) ≠ [2] := by decide
  have k06 : ([0] : List Nat) ≠ [6] := by decide
  have k12 : ([1] : List Nat) ≠ [2] := by decide
  have k16 : ([1] : List Nat) ≠ [6] := by decide
  simp only [w_rational_lowest, SS, DD, Nat.reduceAdd, reduceIte, IV_one, zeroI_one, zeroR_one, load_skip k01, load_skip k02, load_skip k12, load_put, IV_all]
  refine vsCall_VP hg (by simp [IV_pure]) ?_
  simp only [SS, DD, Nat.reduceAdd, reduceIte, zeroI_one, store_IV, load_skip k01, load_skip k02, load_skip k12, load_skip k16, load_skip k06, load_put, IV_p0]
  have hRV : ∀ x y : Int, (AV.agg [.bool (decide (x < 0)), W x.natAbs, .bool (decide (y < 0)), W y.natAbs]) = RV x y := fun _ _ => rfl
  by_cases hb_neg : decide (b < 0) = true
  · have e : (if b < 0 then -g else g) = (-g) := by simp at hb_neg; first | exact if_pos hb_neg | exact if_neg (by omega)
    rw [e]
    have q1 := hq a (-g) (.inl rfl) (by simp)
    have q2 := hq b (-g) (.inr rfl) (by simp)
    simp only [SS, DD, Nat.reduceAdd, reduceIte, hb_neg, load_skip k01, load_skip k02, load_skip k12, load_skip k16, load_skip k06, load_put, IV_all]
    first
      | refine vsCall_VP hn (by simp [IV_pure]) ?_
        simp only [SS, Nat.reduceAdd, reduceIte]
        rw [store_IV' (k := (AV.agg [.bool false, .nils]).size) (y := IV g) rfl (IV_upd _ _) (by simp [Store.put])]
        simp only [SS, DD, Nat.reduceAdd, reduceIte, load_skip k01, load_skip k02, load_skip k12, load_skip k16, load_skip k06, load_put, IV_all]
      | skip
    refine vdCall_VP q1 (by simp [IV_pure]) ?_
    simp only [SS, DD, Nat.reduceAdd, reduceIte, load_skip k01, load_skip k02, load_skip k12, load_skip k16, load_skip k06, load_put, IV_all]
    refine vdCall_VP q2 (by simp [IV_pure]) ?_
    simp only [SS, DD, Nat.reduceAdd, reduceIte, fill_RV, hRV]
    rw [store_RV' (k := (AV.agg [.bool false, .nils, .bool false, .nils]).size) (by simp [Store.put])]
    simp only [SS, DD, Nat.reduceAdd, reduceIte]
    refine ⟨by simp [allApart, apart], ?_⟩
    refine retQ_ret ▸ retQ_of_pure (r := RV (a.fdiv (-g)) (b.fdiv (-g))) ?_ (RV_pure _ _)
    simp only [RS, outAV, resAV, load_put]
    rfl
  by_cases hb_pos : decide (b < 0) = false
  · have e : (if b < 0 then -g else g) = g := by simp at hb_pos; first | exact if_pos hb_pos | exact if_neg (by omega)
    rw [e]
    have q1 := hq a g (.inl rfl) (by simp)
    have q2 := hq b g (.inr rfl) (by simp)
    simp only [SS, DD, Nat.reduceAdd, reduceIte, hb_pos, load_skip k01, load_skip k02, load_skip k12, load_skip k16, load_skip k06, load_put, IV_all]
    first
      | refine vsCall_VP hn (by simp [IV_pure]) ?_
        simp only [SS, Nat.reduceAdd, reduceIte]
        rw [store_IV' (k := (AV.agg [.bool false, .nils]).size) (y := IV g) rfl (IV_upd _ _) (by simp [Store.put])]
        simp only [SS, DD, Nat.reduceAdd, reduceIte, load_skip k01, load_skip k02, load_skip k12, load_skip k16, load_skip k06, load_put, IV_all]
      | skip
    refine vdCall_VP q1 (by simp [IV_pure]) ?_
    simp only [SS, DD, Nat.reduceAdd, reduceIte, load_skip k01, load_skip k02, load_skip k12, load_skip k16, load_skip k06, load_put, IV_all]
    refine vdCall_VP q2 (by simp [IV_pure]) ?_
    simp only [SS, DD, Nat.reduceAdd, reduceIte, fill_RV, hRV]
    rw [store_RV' (k := (AV.agg [.bool false, .nils, .bool false, .nils]).size) (by simp [Store.put])]
    simp only [SS, DD, Nat.reduceAdd, reduceIte]
    refine ⟨by simp [allApart, apart], ?_⟩
    refine retQ_ret ▸ retQ_of_pure (r := RV (a.fdiv g) (b.fdiv g)) ?_ (RV_pure _ _)
    simp only [RS, outAV, resAV, load_put]
    rfl
  · exfalso; revert hb_neg hb_pos; cases decide (b < 0) <;> simp
end
end Go.VL
end

section
set_option linter.unusedSimpArgs false
namespace Go.VL
section
variable {P : Program} {G : Nat → Option (List AV)}
theorem rmul_ok {f fi fm fo fl : FuncId} (h : Has P f (w_rational_Mul fi fm fo fl)) (a b c d : Int) (x : AV) {x1 x2 : Int} (hx : x = RV x1 x2) (hi : ∀ z, VP P G fi [IV z] (.bool (decide (z = 1)))) (hm1 : VP P G fm [IV a, IV c] (IV (a * c))) (hm2 : VP P G fm [IV b, IV d] (IV (b * d))) (ho : VP P G fo [] (IV 1))
    (hl : VP P G fl [IV (a * c), IV (b * d)] x) : VP P G f [RV a b, RV c d] (if b = 1 ∧ d = 1 then RV (a * c) 1 else x) := by
  refine VP.has h ?_
  have k01 : ([0] : List Nat) ≠ [1] := by decide
  have k02 : ([0] : List Nat) ≠ [2] := by decide
  have k12 : ([1] : List Nat) ≠ [2] := by decide
  have hRV : ∀ x y : Int, (AV.agg [.bool (decide (x < 0)), W x.natAbs, .bool (decide (y < 0)), W y.natAbs]) = RV x y := fun _ _ => rfl
  subst hx
  simp only [w_rational_Mul, SS, DD, Nat.reduceAdd, reduceIte, RV_one, zeroR_one, load_skip k01, load_skip k02, load_skip k12, load_put, RV_p0, RV_p2]
  refine vsCall_VP (hi b) (by simp [IV_pure]) ?_
  have hlast : ∀ (h : ¬ (b = 1 ∧ d = 1)), (if b = 1 ∧ d = 1 then RV (a * c) 1 else RV x1 x2) = RV x1 x2 := fun h => if_neg h
  by_cases hb : b = 1
  · have d1 : decide (b = 1) = true := dec_true hb
    simp only [SS, DD, Nat.reduceAdd, reduceIte, d1, load_skip k01, load_skip k02, load_skip k12, load_put, RV_p0, RV_p2]
    refine vsCall_VP (hi d) (by simp [IV_pure]) ?_
    by_cases hd : d = 1
    · have d2 : decide (d = 1) = true := dec_true hd
      rw [if_pos ⟨hb, hd⟩]
      simp only [SS, DD, Nat.reduceAdd, reduceIte, d2, load_skip k01, load_skip k02, load_skip k12, load_put, RV_p0, RV_p2]
      refine vsCall_VP hm1 (by simp [IV_pure]) ?_
      simp only [SS, DD, Nat.reduceAdd, reduceIte]
      refine vsCall_VP ho (by simp) ?_
      simp only [SS, DD, Nat.reduceAdd, reduceIte, fill_RV, hRV]
      rw [store_RV' (k := (AV.agg [.bool false, .nils, .bool false, .nils]).size) (by simp [Store.put])]
      simp only [SS, DD, Nat.reduceAdd, reduceIte]
      refine retQ_ret ▸ retQ_of_pure (r := RV (a * c) 1) ?_ (RV_pure _ _)
      simp only [RS, outAV, resAV, load_put]
      rfl
    · have d2 : decide (d = 1) = false := dec_false hd
      rw [hlast fun e => hd e.2]
      simp only [SS, DD, Nat.reduceAdd, reduceIte, d2, load_skip k01, load_skip k02, load_skip k12, load_put, RV_p0, RV_p2]
      refine vdCall_VP hm1 (by simp [IV_pure]) ?_
      simp only [SS, DD, Nat.reduceAdd, reduceIte, load_skip k01, load_skip k02, load_skip k12, load_put, RV_p0, RV_p2]
      refine vdCall_VP hm2 (by simp [IV_pure]) ?_
      simp only [SS, DD, Nat.reduceAdd, reduceIte]
      refine vdCall_VP hl (by simp [IV_pure]) ?_
      simp only [SS, DD, Nat.reduceAdd, reduceIte]
      rw [store_RV' (k := (AV.agg [.bool false, .nils, .bool false, .nils]).size) (by simp [Store.put])]
      simp only [SS, DD, Nat.reduceAdd, reduceIte]
      refine ⟨by simp [allApart, apart], ?_⟩
      refine retQ_ret ▸ retQ_of_pure (r := RV x1 x2) ?_ (RV_pure _ _)
      simp only [RS, outAV, resAV, load_put]
      rfl
  · have d1 : decide (b = 1) = false := dec_false hb
    rw [hlast fun e => hb e.1]
    simp only [SS, DD, Nat.reduceAdd, reduceIte, d1, load_skip k01, load_skip k02, load_skip k12, load_put, RV_p0, RV_p2]
    refine vdCall_VP hm1 (by simp [IV_pure]) ?_
    simp only [SS, DD, Nat.reduceAdd, reduceIte, load_skip k01, load_skip k02, load_skip k12, load_put, RV_p0, RV_p2]
    refine vdCall_VP hm2 (by simp [IV_pure]) ?_
    simp only [SS, DD, Nat.reduceAdd, reduceIte]
    refine vdCall_VP hl (by simp [IV_pure]) ?_
    simp only [SS, DD, Nat.reduceAdd, reduceIte]
    rw [store_RV' (k := (AV.agg [.bool false, .nils, .bool false, .nils]).size) (by simp [Store.put])]
    simp only [SS, DD, Nat.reduceAdd, reduceIte]
    refine ⟨by simp [allApart, apart], ?_⟩
    refine retQ_ret ▸ retQ_of_pure (r := RV x1 x2) ?_ (RV_pure _ _)
    simp only [RS, outAV, resAV, load_put]
    rfl
end
end Go.VL
end

section
set_option linter.unusedSimpArgs false
namespace Go.VL
def IR (neg : Bool) (ws : List Nat) : AV := .agg [.bool neg, .sl 1 (us ws)]
theorem IR_one (neg : Bool) (ws : List Nat) : ((IR neg ws).cells.all AV.one = true) = True := by simp [IR, AV.cells, AV.one]
theorem IR_p0 (neg : Bool) (ws : List Nat) : part false (IR neg ws).cells 0 1 = some (.bool neg) := rfl
theorem IR_p1 (neg : Bool) (ws : List Nat) : part false (IR neg ws).cells 1 1 = some (.sl 1 (us ws)) := rfl
def ivalid (neg : Bool) (ws : List Nat) : Bool := if ws = [] then !neg else decide (ws[ws.length - 1]?.getD 0 ≠ 0)
theorem ir_iv {neg : Bool} {ws : List Nat} (hw : Wd ws) (h : ivalid neg ws = true) : IR neg ws = IV (sgn neg (val ws)) := by
  unfold ivalid at h
  by_cases h0 : ws = []
  · subst h0
    rw [if_pos rfl] at h
    have : neg = false := by simpa using h
    subst this
    simp [IR, IV, sgn, val, W, digits_zero, us]
  · rw [if_neg h0] at h
    have hl : 0 < ws.length := List.length_pos_iff.2 h0
    obtain ⟨w, hw2⟩ : ∃ w, ws[ws.length - 1]? = some w := ⟨_, List.getElem?_eq_getElem (by omega)⟩
    rw [hw2] at h
    have hwz : w ≠ 0 := by simpa using h
    have hd : digits (val ws) = ws := digits_val hw (.inr ⟨w, by rw [List.getLast?_eq_getElem?]; exact hw2, hwz⟩)
    have hne : val ws ≠ 0 := fun e => h0 (by rw [← hd, e, digits_zero])
    have e1 : decide (sgn neg (val ws) < 0) = neg := by cases neg <;> simp [sgn] <;> omega
    have e2 : (sgn neg (val ws)).natAbs = val ws := by cases neg <;> simp [sgn]
    unfold IV IR W
    rw [e1, e2, hd]
section
variable {P : Program} {G : Nat → Option (List AV)}
theorem ivalid_ok {f : FuncId} (h : Has P f w_integer_Valid) (neg : Bool) (ws : List Nat) (hl : ws.length ≤ 9223372036854775807) : VP P G f [IR neg ws] (.bool (ivalid neg ws)) := by
  refine VP.has h ?_
  have hlen : vlen false (.sl 1 (us ws)) = some (.int .i64 ws.length) := by simp [vlen, us_len]
  simp only [w_integer_Valid, SS, Nat.reduceAdd, reduceIte, IR_one, load_put, IR_p1, hlen]
  by_cases h0 : ws = []
  · have d0 : decide ((ws.length : Int) = 0) = true := dec_true (by rw [h0]; rfl)
    have d1 : decide ((0 : Int) < (ws.length : Int)) = false := dec_false (by rw [h0]; simp)
    have e : ivalid neg ws = !neg := by unfold ivalid; rw [if_pos h0]
    rw [e]
    cases neg <;>
    · simp only [SS, Nat.reduceAdd, reduceIte, d0, d1, IR_one, load_put, IR_p0, IR_p1, hlen, Bool.not_true, Bool.not_false]
      exact retQ_ret ▸ retQ_of_pure rfl (PureAV.bool _)
  · have hpos : 0 < ws.length := List.length_pos_iff.2 h0
    have d0 : decide ((ws.length : Int) = 0) = false := dec_false (by omega)
    have d1 : decide ((0 : Int) < (ws.length : Int)) = true := dec_true (by omega)
    obtain ⟨w, hw⟩ : ∃ w, ws[ws.length - 1]? = some w := ⟨_, List.getElem?_eq_getElem (by omega)⟩
    have hp := wrap_pred_i64 ws.length hpos hl
    have e : ivalid neg ws = decide ((w : Int) ≠ 0) := by unfold ivalid; rw [if_neg h0, hw]; simp
    rw [e]
    simp only [SS, Nat.reduceAdd, reduceIte, d0, d1, IR_one, load_put, IR_p0, IR_p1, hlen, hp, iaddrS_sl rfl (us_get hw), vload_ep, part_int]
    exact retQ_ret ▸ retQ_of_pure rfl (PureAV.bool _)
end
end Go.VL
end

section
set_option linter.unusedSimpArgs false
namespace Go.VL
def RR (n1 : Bool) (w1 : List Nat) (n2 : Bool) (w2 : List Nat) : AV := .agg [.bool n1, .sl 1 (us w1), .bool n2, .sl 1 (us w2)]
theorem IR_pure (neg : Bool) (ws : List Nat) : PureAV (IR neg ws) := PureAV.agg (by intro c hc; simp at hc; rcases hc with rfl | rfl; exact PureAV.bool _; exact us_pure _)
theorem RR_one (n1 : Bool) (w1 : List Nat) (n2 : Bool) (w2 : List Nat) : ((RR n1 w1 n2 w2).cells.all AV.one = true) = True := by simp [RR, AV.cells, AV.one]
theorem RR_p0 (n1 : Bool) (w1 : List Nat) (n2 : Bool) (w2 : List Nat) : part true (RR n1 w1 n2 w2).cells 0 2 = some (IR n1 w1) := rfl
theorem RR_p2 (n1 : Bool) (w1 : List Nat) (n2 : Bool) (w2 : List Nat) : part true (RR n1 w1 n2 w2).cells 2 2 = some (IR n2 w2) := rfl
section
variable {P : Program} {G : Nat → Option (List AV)}
theorem rvalid_ok {f fv fs fg fo : FuncId} (h : Has P f (w_rational_Valid fv fs fg fo)) (n1 : Bool) (w1 : List Nat) (n2 : Bool) (w2 : List Nat) (hw1 : Wd w1) (hw2 : Wd w2) (g : Int)
    (hv1 : VP P G fv [IR n1 w1] (.bool (ivalid n1 w1))) (hv2 : VP P G fv [IR n2 w2] (.bool (ivalid n2 w2))) (hs : VP P G fs [IV (sgn n2 (val w2))] (.int .i64 (sgn n2 (val w2)).sign))
    (hg : 0 < sgn n2 (val w2) → VP P G fg [IV (sgn n1 (val w1)), IV (sgn n2 (val w2))] (IV g)) (ho : VP P G fo [IV g] (.bool (decide (g = 1)))) :
    VP P G f [RR n1 w1 n2 w2] (.bool (ivalid n1 w1 && ivalid n2 w2 && decide (0 < sgn n2 (val w2)) && decide (g = 1))) := by
  refine VP.has h ?_
  simp only [w_rational_Valid, SS, Nat.reduceAdd, reduceIte, RR_one, load_put, RR_p0, RR_p2]
  refine vsCall_VP hv1 (by simp [IR_pure]) ?_
  by_cases c1 : ivalid n1 w1 = true
  · have e1 := ir_iv hw1 c1
    simp only [SS, Nat.reduceAdd, reduceIte, c1, load_put, RR_p0, RR_p2, RR_one, Bool.true_and]
    refine vsCall_VP hv2 (by simp [IR_pure]) ?_
    by_cases c2 : ivalid n2 w2 = true
    · have e2 := ir_iv hw2 c2
      simp only [SS, Nat.reduceAdd, reduceIte, c2, load_put, RR_p0, RR_p2, RR_one, Bool.true_and, e2]
      refine vsCall_VP hs (by simp [IV_pure]) ?_
      by_cases c3 : 0 < sgn n2 (val w2)
      · have d3 : decide (0 < (sgn n2 (val w2)).sign) = true := dec_true (by rw [Int.sign_eq_one_of_pos c3]; decide)
        have d4 : decide (0 < sgn n2 (val w2)) = true := dec_true c3
        simp only [SS, Nat.reduceAdd, reduceIte, d3, d4, load_put, RR_p0, RR_p2, RR_one, Bool.true_and, e1, e2]
        refine vsCall_VP (hg c3) (by simp [IV_pure]) ?_
        simp only [SS, Nat.reduceAdd, reduceIte]
        refine vsCall_VP ho (by simp [IV_pure]) ?_
        simp only [SS, Nat.reduceAdd, reduceIte]
        exact retQ_ret ▸ retQ_of_pure rfl (PureAV.bool _)
      · have d3 : decide (0 < (sgn n2 (val w2)).sign) = false := dec_false (by rcases sign_cases (sgn n2 (val w2)) with ⟨e, p⟩ | ⟨e, p⟩ | ⟨e, p⟩ <;> omega)
        have d4 : decide (0 < sgn n2 (val w2)) = false := dec_false c3
        simp only [SS, Nat.reduceAdd, reduceIte, d3, d4, Bool.false_and]
        exact retQ_ret ▸ retQ_of_pure rfl (PureAV.bool _)
    · have c2' : ivalid n2 w2 = false := by simpa using c2
      simp only [SS, Nat.reduceAdd, reduceIte, c2', Bool.false_and]
      exact retQ_ret ▸ retQ_of_pure rfl (PureAV.bool _)
  · have c1' : ivalid n1 w1 = false := by simpa using c1
    simp only [SS, Nat.reduceAdd, reduceIte, c1', Bool.false_and]
    exact retQ_ret ▸ retQ_of_pure rfl (PureAV.bool _)
end
end Go.VL
end

section
set_option linter.unusedSimpArgs false
namespace Go.VL
theorem lt_of_wlen2 {n : Nat} (h : wlen n ≤ 2) : n < 18446744073709551616 := by
  have h1 := lt_pow_wlen n
  have h2 : B32 ^ wlen n ≤ B32 ^ 2 := Nat.pow_le_pow_right B32_pos h
  have h3 : B32 ^ 2 = 18446744073709551616 := by decide
  omega
theorem gcd_step {x y g : Nat} (hg : Nat.gcd x y = g) : Nat.gcd y (x % y) = g := by rw [← hg, Nat.gcd_comm y, ← Nat.gcd_rec, Nat.gcd_comm]
theorem sgn_false (n : Nat) : sgn false n = (n : Int) := by simp [sgn]
section
variable {P : Program} {G : Nat → Option (List AV)}
theorem gcd_ok {f ft fd fc fs ftu fu : FuncId} (h : Has P f (w_integer_GCD ft fd fc fs ftu fu)) (ht : TrimC P G ft) (hd : ∀ m n, n ≠ 0 → wlen m ≤ 900000 → wlen n ≤ 900000 → VP P G fd [W m, W n] (.tup [W (m / n), W (m % n)]))
    (hc : ∀ n, wlen n ≤ 1000000 → VP P G fc [W n] (W n)) (hs : SignedC P G fs) (htu : ∀ n, n < 18446744073709551616 → VP P G ftu [W n] (.int .u64 ((n : Nat) : Int))) (hu : ∀ n, n < 18446744073709551616 → VP P G fu [.int .u64 ((n : Nat) : Int)] (W n))
    (a b : Int) (ha : wlen a.natAbs ≤ 900000) (hb : wlen b.natAbs ≤ 900000) : VP P G f [IV a, IV b] (IV (Nat.gcd a.natAbs b.natAbs : Nat)) := by
  refine VP.has h ?_
  have k01 : ([0] : List Nat) ≠ [1] := by decide
  have k02 : ([0] : List Nat) ≠ [2] := by decide
  have k12 : ([1] : List Nat) ≠ [2] := by decide
  simp only [w_integer_GCD, SS, DD, Nat.reduceAdd, reduceIte, IV_one, zeroI_one, load_skip k01, load_skip k02, load_skip k12, load_put, IV_p1]
  refine vdCall_VP (trimW ht a.natAbs (by omega)) (by simp [W_pure]) ?_
  simp only [SS, DD, Nat.reduceAdd, reduceIte, load_skip k01, load_skip k02, load_skip k12, load_put, IV_p1]
  refine vdCall_VP (trimW ht b.natAbs (by omega)) (by simp [W_pure]) ?_
  simp only [SS, DD, Nat.reduceAdd, reduceIte]
  refine ⟨by simp [allApart, apart], ?_⟩
  simp only [SS, DD, Nat.reduceAdd, reduceIte, vwp_loop]
  refine VW.loopQ (α := Nat × Nat × Nat) (fun x => ⟨[IV a, IV b, .top, .top, .ref [2] 0 0, W x.1, W x.2.1] ++ List.replicate 50 .top,
    Store.put (fun _ => none) [2] (some ⟨[.agg [.bool false, .nils]], (AV.agg [.bool false, .nils]).size, false⟩), x.2.2⟩)
    (fun x => Nat.gcd x.1 x.2.1 = Nat.gcd a.natAbs b.natAbs ∧ wlen x.1 ≤ 900000 ∧ wlen x.2.1 ≤ 900000) (fun x => x.2.1) (a.natAbs, b.natAbs, 1000) ?_ ?_ ?_
  · exact Wk.forget (by simp [Fg, List.replicate]) (fun j => by simp only [Store.put]; split <;> simp_all) (by simp only []; omega)
  · exact ⟨rfl, ha, hb⟩
  rintro ⟨x, y, nn⟩ ⟨hg, hx, hy⟩
  simp only [] at hg hx hy
  have g1 : 2 < wlen y → decide ((2 : Int) < (wlen y : Int)) = true := fun h => dec_true (by omega)
  have g2 : ¬ 2 < wlen y → decide ((2 : Int) < (wlen y : Int)) = false := fun h => dec_false (by omega)
  have g3 : 2 < wlen x → decide ((2 : Int) < (wlen x : Int)) = true := fun h => dec_true (by omega)
  have g4 : ¬ 2 < wlen x → decide ((2 : Int) < (wlen x : Int)) = false := fun h => dec_false (by omega)
  have g5 : 0 < wlen y → decide ((0 : Int) < (wlen y : Int)) = true := fun h => dec_true (by omega)
  have g6 : ¬ 0 < wlen y → decide ((0 : Int) < (wlen y : Int)) = false := fun h => dec_false (by omega)
  have e1 : 0 < wlen y → decide ((wlen y : Int) = 0) = false := fun h => dec_false (by omega)
  have e2 : ¬ 0 < wlen y → decide ((wlen y : Int) = 0) = true := fun h => dec_true (by omega)
  have hy0 : 0 < wlen y → y ≠ 0 := fun h e => by have := wlen_pos_iff.2 e; omega
  have hy1 : ¬ 0 < wlen y → y = 0 := fun h => wlen_pos_iff.1 (by omega)
  have hp2 : 2 < wlen y → 0 < wlen y := fun h => by omega
  have w1 := wlen_mod x y
  have hw2 : wlen (x % y) ≤ 900000 := by omega
  have hcx : wlen x ≤ 1000000 := by omega
  have hsx : wlen x ≤ 9223372036854775807 := by omega
  have hxx : ¬ 2 < wlen x → x < 18446744073709551616 := fun h => lt_of_wlen2 (by omega)
  have hyy : ¬ 2 < wlen y → y < 18446744073709551616 := fun h => lt_of_wlen2 (by omega)
  have hlast : ∀ g, g < 18446744073709551616 → wlen g ≤ 9223372036854775807 := fun g h => by have := wlen_small g h; omega
  clear w1
  simp only [SS, Nat.reduceAdd, reduceIte]
  by_cases c1 : 2 < wlen y
  · have hpos := hp2 c1
    have hdv := hd x y (hy0 hpos) hx hy
    simp only [SS, Nat.reduceAdd, reduceIte, W_len, g1 c1]
    refine vsCall_VP hdv (by simp [W_pure]) ?_
    simp only [SS, Nat.reduceAdd, reduceIte, tup2_0, tup2_1]
    exact ⟨(y, x % y, _), ⟨gcd_step hg, hy, hw2⟩, Nat.mod_lt _ (Nat.pos_of_ne_zero (hy0 hpos)), Wk.slots (by simp [Fg, List.replicate]) (Nat.le_refl _)⟩
  by_cases c3 : 0 < wlen y
  · by_cases c2 : 2 < wlen x
    · have hdv := hd x y (hy0 c3) hx hy
      simp only [SS, Nat.reduceAdd, reduceIte, W_len, g2 c1, g3 c2, g5 c3]
      refine vsCall_VP hdv (by simp [W_pure]) ?_
      simp only [SS, Nat.reduceAdd, reduceIte, tup2_0, tup2_1]
      exact ⟨(y, x % y, _), ⟨gcd_step hg, hy, hw2⟩, Nat.mod_lt _ (Nat.pos_of_ne_zero (hy0 c3)), Wk.slots (by simp [Fg, List.replicate]) (Nat.le_refl _)⟩
    · simp only [SS, Nat.reduceAdd, reduceIte, W_len, g2 c1, g4 c2, e1 c3]
      refine vsCall_VP (htu x (hxx c2)) (by simp [W_pure]) ?_
      simp only [SS, Nat.reduceAdd, reduceIte]
      refine vsCall_VP (htu y (hyy c1)) (by simp [W_pure]) ?_
      simp only [SS, Nat.reduceAdd, reduceIte, vwp_loop]
      refine VW.loopQ (α := Nat × Nat × Nat) (fun x => ⟨[IV a, IV b, .top, .top, .ref [2] 0 0, .top, .top, .top, .top, .int .u64 ((x.1 : Nat) : Int), .int .u64 ((x.2.1 : Nat) : Int)] ++ List.replicate 46 .top,
        Store.put (fun _ => none) [2] (some ⟨[.agg [.bool false, .nils]], (AV.agg [.bool false, .nils]).size, false⟩), x.2.2⟩)
        (fun x => Nat.gcd x.1 x.2.1 = Nat.gcd a.natAbs b.natAbs ∧ x.1 < 18446744073709551616 ∧ x.2.1 < 18446744073709551616) (fun x => x.2.1) (x, y, nn + 1000) ?_ ?_ ?_
      · exact Wk.slots (by simp [Fg, List.replicate]) (by simp only []; omega)
      · exact ⟨hg, hxx c2, hyy c1⟩
      rintro ⟨u, v, mm⟩ ⟨hg', hu', hv'⟩
      simp only [] at hg' hu' hv'
      by_cases v0 : v = 0
      · subst v0
        have d0 : decide (((0 : Nat) : Int) ≠ 0) = false := by decide
        rw [Nat.gcd_zero_right] at hg'
        have hs' := hs false u (hlast u hu')
        rw [sgn_false] at hs'
        simp only [SS, Nat.reduceAdd, reduceIte, d0]
        refine vsCall_VP (hu u hu') (by simp [PureAV.int]) ?_
        simp only [SS, Nat.reduceAdd, reduceIte]
        refine vsCall_VP hs' (by simp [PureAV.bool, W_pure]) ?_
        simp only [SS, Nat.reduceAdd, reduceIte, store_IV]
        rw [← hg']
        refine retQ_ret ▸ retQ_of_pure (r := IV (u : Int)) ?_ (IV_pure _)
        simp only [RS, outAV, resAV, load_put]; rfl
      · have d0 : decide ((v : Int) ≠ 0) = true := dec_true (by omega)
        have f1 := rem64 u v v0
        have hlt : u % v < 18446744073709551616 := Nat.lt_of_le_of_lt (Nat.mod_le _ _) hu'
        simp only [SS, DD, Nat.reduceAdd, reduceIte, d0, f1]
        first
        | exact ⟨(v, u % v, _), ⟨gcd_step hg', hv', hlt⟩, Nat.mod_lt _ (Nat.pos_of_ne_zero v0), Wk.slots (by simp [Fg, List.replicate]) (Nat.le_refl _)⟩
        | exact ⟨by simp [allApart, apart], (v, u % v, _), ⟨gcd_step hg', hv', hlt⟩, Nat.mod_lt _ (Nat.pos_of_ne_zero v0), Wk.slots (by simp [Fg, List.replicate]) (Nat.le_refl _)⟩
  · have hyz := hy1 c3
    rw [hyz, Nat.gcd_zero_right] at hg
    have hs' := hs false x hsx
    rw [sgn_false] at hs'
    by_cases c2 : 2 < wlen x
    · simp only [SS, Nat.reduceAdd, reduceIte, W_len, g2 c1, g3 c2, g6 c3, e2 c3]
      refine vsCall_VP (hc x hcx) (by simp [W_pure]) ?_
      simp only [SS, Nat.reduceAdd, reduceIte]
      refine vsCall_VP hs' (by simp [PureAV.bool, W_pure]) ?_
      simp only [SS, Nat.reduceAdd, reduceIte, store_IV]
      rw [← hg]
      refine retQ_ret ▸ retQ_of_pure (r := IV (x : Int)) ?_ (IV_pure _)
      simp only [RS, outAV, resAV, load_put]; rfl
    · simp only [SS, Nat.reduceAdd, reduceIte, W_len, g2 c1, g4 c2, g6 c3, e2 c3]
      refine vsCall_VP (hc x hcx) (by simp [W_pure]) ?_
      simp only [SS, Nat.reduceAdd, reduceIte]
      refine vsCall_VP hs' (by simp [PureAV.bool, W_pure]) ?_
      simp only [SS, Nat.reduceAdd, reduceIte, store_IV]
      rw [← hg]
      refine retQ_ret ▸ retQ_of_pure (r := IV (x : Int)) ?_ (IV_pure _)
      simp only [RS, outAV, resAV, load_put]; rfl
end
end Go.VL
end

section
namespace Go.VL
section
variable {b M h l v' V num u2 u' U : Nat}
theorem kd_V (hV : V = (h * b + l) * M + v') : V = h * (b * M) + l * M + v' := by rw [hV, Nat.add_mul, Nat.mul_assoc]
theorem kd_U (hU : U = (num * b + u2) * M + u') : U = num * (b * M) + u2 * M + u' := by rw [hU, Nat.add_mul, Nat.mul_assoc]
theorem kd_u2 (h2 : u2 < b) (h1 : u' < M) : u2 * M + u' < b * M := by
  have : (u2 + 1) * M ≤ b * M := Nat.mul_le_mul_right _ h2
  rw [Nat.add_mul] at this; omega
theorem kd_first (h0 : 0 < h) (hV : V = (h * b + l) * M + v') (hU : U = (num * b + u2) * M + u') (h2 : u2 < b) (h1 : u' < M) : U / V ≤ num / h := by
  have hbM := kd_u2 h2 h1
  have eV := kd_V hV
  have eU := kd_U hU
  have hVp : 0 < V := by
    have : 1 * (b * M) ≤ h * (b * M) := Nat.mul_le_mul_right _ h0
    omega
  refine Nat.le_of_lt_succ ((Nat.div_lt_iff_lt_mul hVp).2 ?_)
  have hq : num + 1 ≤ (num / h + 1) * h := by rw [Nat.mul_comm]; exact Nat.lt_mul_div_succ num h0
  have h3 : (num / h + 1) * (h * (b * M)) ≤ (num / h + 1) * V := Nat.mul_le_mul_left _ (by omega)
  have h4 : (num + 1) * (b * M) ≤ (num / h + 1) * h * (b * M) := Nat.mul_le_mul_right _ hq
  rw [Nat.mul_assoc] at h4
  rw [Nat.add_mul] at h4
  show U < (num / h + 1) * V
  omega
theorem kd_less {q r : Nat} (hV : V = (h * b + l) * M + v') (hU : U = (num * b + u2) * M + u') (h1 : u' < M) (hq : q * h + r = num) (ht : r * b + u2 < q * l) : U / V ≤ q - 1 := by
  have h3 : num * b + u2 + 1 ≤ q * (h * b + l) := by
    rw [← hq, Nat.add_mul, Nat.mul_add, ← Nat.mul_assoc]; omega
  have h4 : (num * b + u2 + 1) * M ≤ q * (h * b + l) * M := Nat.mul_le_mul_right _ h3
  have h5 : U < q * V := by
    rw [hV, Nat.mul_add, ← Nat.mul_assoc]
    rw [Nat.add_mul] at h4
    omega
  have hVp : 0 < V := by
    rcases Nat.eq_zero_or_pos V with e | e
    · rw [e] at h5; simp at h5
    · exact e
  have := (Nat.div_lt_iff_lt_mul hVp).2 h5
  omega
theorem kd_pass {q r : Nat} (h0 : 0 < h) (hV : V = (h * b + l) * M + v') (hU : U = (num * b + u2) * M + u') (hv : v' < M) (hqb : q < b) (hq : q * h + r = num) (ht : q * l ≤ r * b + u2) : q ≤ U / V + 1 := by
  have h3 : q * (h * b + l) ≤ num * b + u2 := by
    rw [← hq, Nat.add_mul, Nat.mul_add, ← Nat.mul_assoc]; omega
  have h4 : q * (h * b + l) * M ≤ (num * b + u2) * M := Nat.mul_le_mul_right _ h3
  have h5 : q * v' ≤ b * M := by
    have a1 : q * v' ≤ b * v' := Nat.mul_le_mul_right _ (Nat.le_of_lt hqb)
    have a2 : b * v' ≤ b * M := Nat.mul_le_mul_left _ (Nat.le_of_lt hv)
    omega
  have eV := kd_V hV
  have h6 : 1 * (b * M) ≤ h * (b * M) := Nat.mul_le_mul_right _ h0
  have h7 : q * V ≤ U + V := by
    have : q * V = q * (h * b + l) * M + q * v' := by rw [hV, Nat.mul_add, ← Nat.mul_assoc]
    omega
  rcases Nat.eq_zero_or_pos q with e | e
  · rw [e]; exact Nat.zero_le _
  · have h8 : (q - 1) * V ≤ U := by
      have : q * V = (q - 1) * V + V := by
        have := Nat.sub_add_cancel e
        calc q * V = (q - 1 + 1) * V := by rw [this]
          _ = (q - 1) * V + V := by rw [Nat.add_mul, Nat.one_mul]
      omega
    have hVp : 0 < V := by
      have hM : 0 < M := by omega
      have : 0 < b * M := Nat.mul_pos (by omega) hM
      omega
    have := (Nat.le_div_iff_mul_le hVp).2 h8
    omega
theorem kd_break {q r : Nat} (hn : num < (h + 1) * b) (hl : l < b) (hq : q * h + r = num) (hr : b ≤ r) : q < b ∧ q * l ≤ r * b + u2 := by
  have hqb : q < b := by
    rw [Nat.add_mul, Nat.one_mul] at hn
    have h1 : q * h < b * h := by rw [Nat.mul_comm b h]; omega
    exact Nat.lt_of_mul_lt_mul_right h1
  refine ⟨hqb, ?_⟩
  have h1 : q * l ≤ b * b := Nat.mul_le_mul (Nat.le_of_lt hqb) (Nat.le_of_lt hl)
  have h2 : b * b ≤ r * b := Nat.mul_le_mul_right _ hr
  omega
theorem kd_sub {q : Nat} (hVp : 0 < V) (hle : U / V ≤ q) (hpass : q ≤ U / V + 1) : (U < q * V ∧ q = U / V + 1 ∨ q * V ≤ U ∧ q = U / V) := by
  by_cases h : U < q * V
  · left
    have := (Nat.div_lt_iff_lt_mul hVp).2 h
    exact ⟨h, by omega⟩
  · right
    have := (Nat.le_div_iff_mul_le hVp).2 (Nat.le_of_not_lt h)
    exact ⟨by omega, by omega⟩
end
end Go.VL
end

section
namespace Go.VL
theorem top2 {ds : List Nat} {j h l : Nat} (hw : Wd ds) (hl : ds.length = j + 2) (h1 : ds[j + 1]? = some h) (h0 : ds[j]? = some l) :
    val ds = (h * B32 + l) * B32 ^ j + val (ds.take j) ∧ val (ds.take j) < B32 ^ j := by
  have e1 := val_take_succ h1
  have e0 := val_take_succ h0
  have e2 : ds.take (j + 1 + 1) = ds := List.take_of_length_le (by omega)
  have h3 := val_lt (wd_take hw j)
  rw [List.length_take, Nat.min_eq_left (by omega)] at h3
  rw [e2, e0] at e1
  refine ⟨?_, h3⟩
  have e4 : (h * B32 + l) * B32 ^ j = B32 ^ (j + 1) * h + B32 ^ j * l := by
    rw [Nat.add_mul, Nat.pow_succ, Nat.mul_comm l, Nat.mul_assoc, Nat.mul_comm h, Nat.mul_comm B32]
  omega
theorem top3 {ds : List Nat} {j x2 x1 x0 : Nat} (hw : Wd ds) (hl : ds.length = j + 3) (h2 : ds[j + 2]? = some x2) (h1 : ds[j + 1]? = some x1) (h0 : ds[j]? = some x0) :
    val ds = ((x2 * B32 + x1) * B32 + x0) * B32 ^ j + val (ds.take j) ∧ val (ds.take j) < B32 ^ j := by
  have e2 := val_take_succ h2
  have e1 := val_take_succ h1
  have e0 := val_take_succ h0
  have e3 : ds.take (j + 2 + 1) = ds := List.take_of_length_le (by omega)
  have h3 := val_lt (wd_take hw j)
  rw [List.length_take, Nat.min_eq_left (by omega)] at h3
  rw [e3, e1, e0] at e2
  refine ⟨?_, h3⟩
  have e4 : ((x2 * B32 + x1) * B32 + x0) * B32 ^ j = B32 ^ (j + 2) * x2 + B32 ^ (j + 1) * x1 + B32 ^ j * x0 := by
    rw [Nat.add_mul, Nat.add_mul, Nat.add_mul, Nat.mul_comm x0]
    have a : B32 ^ (j + 1) * x1 = x1 * B32 * B32 ^ j := by rw [Nat.pow_succ, Nat.mul_comm, Nat.mul_assoc, Nat.mul_comm B32]
    have b : B32 ^ (j + 2) * x2 = x2 * B32 * B32 * B32 ^ j := by
      have e : B32 ^ (j + 2) = B32 ^ j * B32 * B32 := by rw [show j + 2 = j + 1 + 1 from rfl, Nat.pow_succ, Nat.pow_succ]
      rw [e]
      generalize B32 ^ j = Y
      generalize B32 = Z
      simp only [Nat.mul_comm, Nat.mul_left_comm]
    omega
  omega
theorem blen_le {x : Nat} (h : x < B32) (h0 : 0 < x) : 1 ≤ blen x ∧ blen x ≤ 32 := by
  obtain ⟨a, b⟩ := blen_law h h0
  constructor
  · rcases Nat.eq_zero_or_pos (blen x) with e | e
    · rw [e] at a; simp at a; omega
    · exact e
  · have h2 : 2 ^ blen x < 2 ^ 33 := by unfold B32 at h; omega
    have := (Nat.pow_lt_pow_iff_right (by decide : 1 < 2)).1 h2
    omega
theorem norm_law {n x k : Nat} (hk : wlen n = k + 1) (hx : (digits n)[k]? = some x) :
    0 < x ∧ x < B32 ∧ n * 2 ^ (32 - blen x) < B32 ^ (k + 1) ∧ wlen (n * 2 ^ (32 - blen x)) = k + 1 ∧ 32 - blen x ≤ 31 := by
  have hxw := digits_wd n x (List.mem_of_getElem? hx)
  have hx0 : 0 < x := by
    rcases digits_last (n := n) with h | ⟨w, h, hw⟩
    · rw [h] at hx; simp at hx
    · rw [List.getLast?_eq_getElem?, show (digits n).length - 1 = k from by show wlen n - 1 = k; omega, hx] at h
      simp only [Option.some.injEq] at h; omega
  obtain ⟨hb1, hb2⟩ := blen_le hxw hx0
  have hbl := (blen_law hxw hx0).1
  have e := val_take_succ hx
  rw [List.take_of_length_le (show (digits n).length ≤ k + 1 from by show wlen n ≤ k + 1; omega), val_digits] at e
  have h3 := val_lt (wd_take (digits_wd n) k)
  rw [List.length_take, Nat.min_eq_left (show k ≤ (digits n).length from by show k ≤ wlen n; omega)] at h3
  have h4 : n + 1 ≤ B32 ^ k * 2 ^ blen x := by
    have : B32 ^ k * (x + 1) ≤ B32 ^ k * 2 ^ blen x := Nat.mul_le_mul_left _ hbl
    rw [Nat.mul_add] at this; omega
  have h5 : (n + 1) * 2 ^ (32 - blen x) ≤ B32 ^ (k + 1) := by
    have := Nat.mul_le_mul_right (2 ^ (32 - blen x)) h4
    rw [Nat.mul_assoc, ← Nat.pow_add, show blen x + (32 - blen x) = 32 from by omega] at this
    rw [Nat.pow_succ]; exact this
  have hp := Nat.two_pow_pos (32 - blen x)
  have h6 : n * 2 ^ (32 - blen x) < B32 ^ (k + 1) := by rw [Nat.add_mul] at h5; omega
  refine ⟨hx0, hxw, h6, ?_, by omega⟩
  have h7 := wlen_le h6
  have h8 : wlen n ≤ wlen (n * 2 ^ (32 - blen x)) := wlen_mono (Nat.le_mul_of_pos_right _ hp)
  omega
theorem kd_D {x R V : Nat} (hx : x < B32) (hR : R < V) : x + B32 * R < B32 * V ∧ (x + B32 * R) / V < B32 := by
  have : B32 * (R + 1) ≤ B32 * V := Nat.mul_le_mul_left _ hR
  have h : x + B32 * R < B32 * V := by rw [Nat.mul_add] at this; omega
  exact ⟨h, Nat.div_lt_of_lt_mul (by rw [Nat.mul_comm V]; exact h)⟩
theorem kd_num {num u2 M u' h l v' V D : Nat} (hl : l < B32) (hv : v' < M) (hV : V = (h * B32 + l) * M + v') (hD : D = (num * B32 + u2) * M + u') (hlt : D < B32 * V) : num < (h + 1) * B32 := by
  have h1 : V < (h + 1) * B32 * M := by
    have : (h * B32 + l + 1) * M ≤ (h + 1) * B32 * M := Nat.mul_le_mul_right _ (by rw [Nat.add_mul]; omega)
    rw [Nat.add_mul, Nat.one_mul] at this; omega
  have h2 : num * (B32 * M) ≤ D := by
    have : num * B32 * M ≤ (num * B32 + u2) * M := Nat.mul_le_mul_right _ (by omega)
    rw [Nat.mul_assoc] at this; omega
  have h3 : B32 * V < (h + 1) * B32 * (B32 * M) := by
    have := Nat.mul_lt_mul_of_pos_left h1 B32_pos
    rw [Nat.mul_left_comm] at this; exact this
  exact Nat.lt_of_mul_lt_mul_right (a := B32 * M) (by omega)
theorem kd_round {U a0 i x O V R q r : Nat} (hU : U = a0 + B32 ^ i * x + B32 ^ (i + 1) * (O * V + R)) (hD : x + B32 * R = q * V + r) : U = a0 + B32 ^ i * ((q + B32 * O) * V + r) := by
  have e : B32 ^ (i + 1) * (O * V + R) = B32 ^ i * (B32 * (O * V)) + B32 ^ i * (B32 * R) := by
    rw [Nat.pow_succ, Nat.mul_assoc, ← Nat.mul_add, ← Nat.mul_add]
  have e2 : B32 ^ i * ((q + B32 * O) * V + r) = B32 ^ i * (q * V + r) + B32 ^ i * (B32 * (O * V)) := by
    rw [← Nat.mul_add, Nat.add_mul, Nat.mul_assoc]; congr 1; omega
  rw [hU, e, e2, ← hD, Nat.mul_add]; omega
theorem pad_top {k r : Nat} (h : r < B32 ^ k) : pad (k + 1) r = pad k r ++ [0] := by
  have e1 : val (pad k r ++ [0]) = r := by rw [val_snoc_zero, val_padded h]
  have e2 : (pad k r ++ [0]).length = k + 1 := by simp [pad_len]
  have h1 := pad_of (wd_append (pad_wd k r) (b := [0]) (fun z hz => by rw [List.mem_singleton.1 hz]; exact B32_pos))
  rw [e1, e2] at h1
  exact h1
theorem pad_keep {k D V q : Nat} (h : D % V < B32 ^ k) (hq : q = D / V) : pad (k + 1) (D + B32 ^ (k + 1) - q * V) = pad k (D % V) ++ [0] := by
  have h1 := Nat.mod_add_div D V
  rw [Nat.mul_comm] at h1
  have : D + B32 ^ (k + 1) - q * V = D % V + B32 ^ (k + 1) * 1 := by rw [hq]; omega
  rw [this, pad_add, pad_top h]
theorem pad_rest {k D V q : Nat} (h0 : 0 < V) (h : D % V < B32 ^ k) (hV : V < B32 ^ k) (hq : q = D / V + 1) : pad (k + 1) (val (pad (k + 1) (D + B32 ^ (k + 1) - q * V)) + V) = pad k (D % V) ++ [0] := by
  have h1 := Nat.mod_add_div D V
  rw [Nat.mul_comm] at h1
  have e : q * V = D / V * V + V := by rw [hq, Nat.add_mul, Nat.one_mul]
  have h2 : B32 ^ k ≤ B32 ^ (k + 1) := Nat.pow_le_pow_right B32_pos (by omega)
  have h3 : D % V < V := Nat.mod_lt _ h0
  rw [val_padded (by omega)]
  have : D + B32 ^ (k + 1) - q * V + V = D % V + B32 ^ (k + 1) * 1 := by omega
  rw [this, pad_add, pad_top h]
theorem kd_start {m s V N k c A R : Nat} (hN : V = N * 2 ^ s) (hNk : B32 ^ (k - 1) ≤ N) (hm : m < B32 ^ (c + (k - 1))) (hU : m * 2 ^ s = A + B32 ^ c * R) : R < V := by
  rcases Nat.lt_or_ge R V with h | h
  · exact h
  · exfalso
    have h1 : B32 ^ c * V ≤ B32 ^ c * R := Nat.mul_le_mul_left _ h
    have h2 : B32 ^ c * (B32 ^ (k - 1) * 2 ^ s) ≤ B32 ^ c * V := by rw [hN]; exact Nat.mul_le_mul_left _ (Nat.mul_le_mul_right _ hNk)
    rw [← Nat.mul_assoc, ← Nat.pow_add] at h2
    have h3 := Nat.mul_lt_mul_of_pos_right hm (Nat.two_pow_pos s)
    omega
theorem kd_dec {q r num h l u2 M u' v' V D : Nat} (hl : l < B32) (hvM : v' < M) (huM : u' < M) (h0 : 0 < h) (hV : V = (h * B32 + l) * M + v') (hD : D = (num * B32 + u2) * M + u') (hlt : D < B32 * V) (hdB : D / V < B32)
    (hq : q * h + r = num) (hle : D / V ≤ q) (ht : B32 ≤ q ∨ r * B32 + u2 < q * l) : 1 ≤ q ∧ D / V ≤ q - 1 ∧ (q - 1) * h + (r + h) = num ∧ (B32 ≤ r + h → q - 1 < B32 ∧ q - 1 ≤ D / V + 1) := by
  have hq1 : 1 ≤ q := by
    rcases Nat.eq_zero_or_pos q with e | e
    · subst e
      rcases ht with h1 | h1
      · unfold B32 at h1; omega
      · simp at h1
    · exact e
  have hle' : D / V ≤ q - 1 := by
    rcases ht with h1 | h1
    · omega
    · exact kd_less hV hD huM hq h1
  have hs : (q - 1) * h + (r + h) = num := by
    obtain ⟨p, rfl⟩ : ∃ p, q = p + 1 := ⟨q - 1, by omega⟩
    rw [Nat.add_mul] at hq
    simp only [Nat.add_sub_cancel]; omega
  refine ⟨hq1, hle', hs, fun hb => ?_⟩
  obtain ⟨a, c⟩ := kd_break (u2 := u2) (kd_num hl hvM hV hD hlt) hl hs hb
  exact ⟨a, kd_pass h0 hV hD hvM a hs c⟩
theorem kd_done {m n s O r : Nat} (_hn : n ≠ 0) (hU : m * 2 ^ s = O * (n * 2 ^ s) + r) (hr : r < n * 2 ^ s) : O = m / n ∧ r / 2 ^ s = m % n ∧ wlen r ≤ wlen (n * 2 ^ s) := by
  have hp := Nat.two_pow_pos s
  have h1 : r = (m - O * n) * 2 ^ s := by
    rw [Nat.sub_mul, Nat.mul_assoc]; omega
  have h2 : m - O * n < n := by
    rw [h1] at hr; exact Nat.lt_of_mul_lt_mul_right hr
  have h3 : O * n ≤ m := by
    have : O * n * 2 ^ s ≤ m * 2 ^ s := by rw [Nat.mul_assoc]; omega
    exact Nat.le_of_mul_le_mul_right this hp
  have h4 : (m - O * n) + n * O = m := by rw [Nat.mul_comm n]; omega
  have h5 : m / n = O ∧ m % n = m - O * n := (Nat.div_mod_unique (Nat.pos_of_ne_zero _hn)).2 ⟨h4, h2⟩
  refine ⟨h5.1.symm, ?_, wlen_mono (Nat.le_of_lt hr)⟩
  rw [h1, Nat.mul_div_cancel _ hp, h5.2]
theorem get_blk {a b t : List Nat} {i j x : Nat} (ha : a.length = i) (h : b[j]? = some x) : (a ++ b ++ t)[i + j]? = some x := by
  have hj := (List.getElem?_eq_some_iff.1 h).1
  rw [List.append_assoc, List.getElem?_append_right (by omega), List.getElem?_append_left (by omega), ← h]
  congr 1; omega
theorem split_last {a : List Nat} {i : Nat} (h : a.length = i + 1) : ∃ b x, a = b ++ [x] ∧ b.length = i := by
  refine ⟨a.take i, a[i]'(by omega), ?_, by simp; omega⟩
  rw [← List.take_succ_eq_append_getElem, List.take_of_length_le (by omega)]
end Go.VL
end

section
namespace Go.VL
section
variable {P : Program} {G : Nat → Option (List AV)} {π : Id} {Q : VExit → VS → Prop} {s : VS}
theorem VW.seqV {x y : VCode} (h : VW P G π x (Then (VW P G π y Q) Q) s) : VW P G π (.seq x y) Q s :=
  VW.seq (h.mono fun e _ hq => by cases e <;> exact hq)
theorem VW.blockT {id : Nat} {x : VCode} (h : VW P G π x (Blkd id Q) s) : VW P G π (.block id x) Q s :=
  VW.block (h.mono fun e _ hq => by cases e <;> exact hq)
theorem VW.cut {x : VCode} {s' : VS} (hw : Wk G π s s') (h : vwp P G π x Q s') : VW P G π x Q s := VW.wk hw (VW.of h)
theorem VW.loopW {α : Type} {x : VCode} {s : VS} (st : α → VS) (Pr : α → Prop) (m : α → Nat) (x0 : α) (hw : Wk G π s (st x0)) (h0 : Pr x0)
    (h : ∀ a, Pr a → VW P G π x (LoopQ G π st Pr m a Q) (st a)) : VW P G π (.loop x) Q s := by
  refine VW.wk hw ?_
  intro c hc own E w a R hm hR
  cases c <;> simp only [cCode, Option.some.injEq, reduceCtorEq] at hc
  case loop cb =>
    cases h1 : cCode P cb with
    | none => simp [h1] at hc
    | some vb =>
      simp only [h1, Option.map_some, Option.some.injEq, VCode.loop.injEq] at hc
      subst hc
      refine wp_loop_rel (α := α) (fun g a' w' => Pr g ∧ ∃ E', AdvP own π E E' w w' ∧ Matched G π own E' w' (st g) a') m (x := x0) ⟨h0, E, AdvP.refl own π E w, hm⟩ ?_
      rintro g a2 w2 ⟨hI2, E2, ad2, hm2⟩
      refine (h g hI2) cb h1 own E2 w2 a2 _ hm2 ?_
      intro e s' E' w' a' hq had hm'
      cases e with
      | normal =>
        obtain ⟨g', hI3, hlt, hw3⟩ := hq
        obtain ⟨E3, ad3, hm3⟩ := hw3 own E' w' a' hm'
        exact ⟨g', ⟨hI3, E3, (ad2.trans had).trans ad3, hm3⟩, hlt⟩
      | exit id => exact hR (.exit id) s' E' w' a' hq (ad2.trans had) hm'
      | ret => exact hR .ret s' E' w' a' hq (ad2.trans had) hm'
  case region => exfalso; revert hc; unfold cRegion; (repeat' split) <;> simp
  all_goals (exfalso; revert hc; (repeat' split) <;> simp)
theorem vdCall_view {base : Nat} {n : Nat} {ps : List (Nat × Nat)} {d : Option Nat} {os : List VOper} {i : Nat} {acc : List Res} {t : List AV} {σ : Store} {f : FuncId} {args args' : List AV} {r : AV} (S : List (Id × Blk))
    (h : VP P G f args' r) (hv : ViewL (Store.of S) args args') (hS : ∀ x ∈ S, σ x.1 = some x.2) (k : vd P G π base Q n ps os (i + 1) ({ val := r, rd := S.map (·.1), up := frz S } :: acc) (putT t d r) (σ.app (frz S))) : vdCall P G π base Q n ps d os i acc t σ f args :=
  ⟨S, _, CallRel.of_view h hv, hS, fun x hx => List.mem_map.2 ⟨x, hx, rfl⟩, k⟩
end
theorem slice_own {id : Id} {k len l h : Nat} (h1 : l < h) (h2 : h ≤ len) : vslice k (.osl id k 0 len false) (some (.int .i64 (l : Int))) (some (.int .i64 (h : Int))) none = some (.osl id k l (h - l) false) := by
  rcases Nat.eq_zero_or_pos l with rfl | hp
  · simp [vslice, vbounds, vbound, h2]
  · simp [vslice, vbounds, vbound, h2, Nat.le_of_lt h1, Nat.ne_of_gt hp, Nat.ne_of_lt h1]
theorem slice_own0 {id : Id} {k len h : Nat} (h2 : h ≤ len) : vslice k (.osl id k 0 len false) none (some (.int .i64 (h : Int))) none = some (.osl id k 0 h false) := by
  simp [vslice, vbounds, vbound, h2]
end Go.VL
end
