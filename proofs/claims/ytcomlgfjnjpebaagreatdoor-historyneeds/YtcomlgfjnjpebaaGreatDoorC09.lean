/- For the claim of HistoryNeeds: parts HI2, VL34, SNH, CF3, CH1, CH2, EXB, CF4, CF5, CF6, CF7, CF8. -/
import Derived.Test.YtcomlgfjnjpebaaGreatDoorC08
import Derived.Test.YtcomlgfjnjpebaaGreatDoorC05
import Derived.Test.YtcomlgfjnjpebaaGreatDoorC04
import Derived.Test.YtcomlgfjnjpebaaGreatDoorC06
set_option linter.unusedSimpArgs false
set_option linter.unusedVariables false
section
set_option maxRecDepth 100000
namespace Go.Proofs.YtcomlgfjnjpebaaGreatDoor
open Go.VL Go.Proofs
section
variable (G : Nat → Option (List AV))
theorem h203 : Has Tryz.prog 203 w_integer_trim := has_setsquareref01_trim
theorem h183 : Has Tryz.prog 183 (w_integer_fromUint 203) := has_setsquareref01_words
theorem t203 : TrimC Tryz.prog G 203 := fun _ hw hl => trim_ok h203 hw hl
theorem s182 : SignedC Tryz.prog G 182 := rsigned_ok has_setsquareref01_signed (t203 G)
theorem n185 (z : Int) (hz : wlen z.natAbs ≤ 1000000) : VP Tryz.prog G 185 [IV z] (IV z) := rnorm_ok has_setsquareref01_Norm (s182 G) z hz
theorem g179 (z : Int) (hz : wlen z.natAbs ≤ 1000000) : VP Tryz.prog G 179 [IV z] (.int .i64 z.sign) := rsignI_ok has_setsquareref01_Sign (n185 G) z hz
theorem w183 (n : Nat) (hn : n < 18446744073709551616) : VP Tryz.prog G 183 [.int .u64 ((n : Nat) : Int)] (W n) := fromUint_ok h183 (t203 G) n hn
theorem fi160 (a : Int) (h1 : -9223372036854775808 ≤ a) (h2 : a < 9223372036854775808) : VP Tryz.prog G 160 [.int .i64 a] (IV a) := rfromI_ok has_setsquareref01_FromInt (w183 G) (s182 G) a h1 h2
theorem c184 (m n : Nat) (hm : wlen m ≤ 1000000) (hn : wlen n ≤ 1000000) : VP Tryz.prog G 184 [W m, W n] (.int .i64 (cmpN m n)) := rcompare_ok has_setsquareref01_compare m n hm hn
theorem p224 (m n : Nat) (hm : wlen m ≤ 1000000) (hn : wlen n ≤ 1000000) : VP Tryz.prog G 224 [W m, W n] (W (m + n)) := rplus_ok has_setsquareref01_plus (t203 G) m n hm hn
theorem m217 (m n : Nat) (hnm : n ≤ m) (hm : wlen m ≤ 1000000) : VP Tryz.prog G 217 [W m, W n] (W (m - n)) := rminus_ok has_setsquareref01_minus (t203 G) m n hnm hm
theorem x205R (m : Nat) (ws : List Nat) (hw : Wd ws) (hm : wlen m ≤ 1000000) (hl : ws.length ≤ 1000000) : VP Tryz.prog G 205 [W m, .sl 1 (us ws)] (W (m * val ws)) := rtimesR_ok has_setsquareref01_times (t203 G) m hw hm hl
theorem x205 (m n : Nat) (hm : wlen m ≤ 1000000) (hn : wlen n ≤ 1000000) : VP Tryz.prog G 205 [W m, W n] (W (m * n)) := rtimes_ok has_setsquareref01_times (t203 G) m n hm hn
theorem b186 (m w : Nat) (hm : wlen m ≤ 1000000) (hw : w < B32) (h0 : w ≠ 0) : VP Tryz.prog G 186 [W m, .int .u32 (w : Int)] (.tup [W (m / w), .int .u32 ((m % w : Nat) : Int)]) := rby_ok has_setsquareref01_by (t203 G) m w hm hw h0
theorem sh213 (n : Nat) (hn : n < 18446744073709551616) : VP Tryz.prog G 213 [W n] (.int .u64 (n : Int)) := short_ok has_setsquareref01_short n hn
theorem bk218 (m s : Nat) (hm : wlen m ≤ 1000000) (hs : s ≤ 31) : VP Tryz.prog G 218 [W m, .int .i64 (s : Int)] (W (m / 2 ^ s)) := back_ok has_setsquareref01_back (t203 G) m s hm hs
theorem d204 (m n : Nat) (hn0 : n ≠ 0) (hm : wlen m ≤ 900000) (hn : wlen n ≤ 900000) : VP Tryz.prog G 204 [W m, W n] (.tup [W (m / n), W (m % n)]) :=
  rdivide_ok has_setsquareref01_divide (c184 G) (sh213 G) (w183 G) (b186 G) has_setsquareref01_length has_setsquareref01_shifted (t203 G) h203 has_setsquareref01_digit (x205R G) has_setsquareref01_minus (bk218 G) m n hn0 hm hn
theorem ne223 (z : Int) (hz : wlen z.natAbs ≤ 1000000) : VP Tryz.prog G 223 [IV z] (IV (-z)) := rneg_ok has_setsquareref01_Neg (s182 G) z hz
theorem a220 (a b : Int) (ha : wlen a.natAbs ≤ 1000000) (hb : wlen b.natAbs ≤ 1000000) : VP Tryz.prog G 220 [IV a, IV b] (IV (a + b)) := radd_ok has_setsquareref01_Add (n185 G) (p224 G) (s182 G) (c184 G) (m217 G) a b ha hb
theorem su219 (a b : Int) (ha : wlen a.natAbs ≤ 1000000) (hb : wlen b.natAbs ≤ 1000000) : VP Tryz.prog G 219 [IV a, IV b] (IV (a - b)) := rsub_ok has_setsquareref01_Sub (ne223 G) (a220 G) a b ha hb
theorem mu187 (a b : Int) (ha : wlen a.natAbs ≤ 1000000) (hb : wlen b.natAbs ≤ 1000000) : VP Tryz.prog G 187 [IV a, IV b] (IV (a * b)) := rmulI_ok has_setsquareref01_Mul (n185 G) (x205 G) (s182 G) a b ha hb
theorem dm206 (a b : Nat) (hb0 : b ≠ 0) (ha : wlen a ≤ 900000) (hb : wlen b ≤ 900000) : VP Tryz.prog G 206 [IV (a : Int), IV (b : Int)] (.tup [IV ((a / b : Nat) : Int), IV ((a % b : Nat) : Int), .int .i64 0]) :=
  rdivMod_ok has_setsquareref01_DivMod (n185 G) (d204 G) (s182 G) (mu187 G) (su219 G) (g179 G) a b hb0 ha hb
theorem g181 (a b : Int) (ha : wlen a.natAbs ≤ 900000) (hb : wlen b.natAbs ≤ 900000) : VP Tryz.prog G 181 [IV a, IV b] (IV (Nat.gcd a.natAbs b.natAbs : Nat)) := rgcd_ok has_setsquareref01_GCD (t203 G) (d204 G) (s182 G) a b ha hb
theorem f162 (n : Nat) (hn : wlen n ≤ 1000000) : VP Tryz.prog G 162 [IV (n : Int)] (.str (Lib.decDigits n)) := rformat_ok has_setsquareref01_Format (n185 G) (b186 G) n hn
theorem sa161 (a b : Int) (ha : wlen a.natAbs ≤ 1000000) (hb : wlen b.natAbs ≤ 1000000) : VP Tryz.prog G 161 [IV a, IV b] (.bool (decide (a = b))) := rsame_ok has_setsquareref01_Same (c184 G) a b ha hb
theorem iv178 (neg : Bool) (ws : List Nat) (hw : Wd ws) (hl : ws.length ≤ 9223372036854775807) : VP Tryz.prog G 178 [IR neg ws] (.bool (ivalid neg ws)) := rivalid_ok has_setsquareref01_Valid (t203 G) neg ws hw hl
theorem q188 (a b : Nat) (hb0 : b ≠ 0) (ha : wlen a ≤ 900000) (hb : wlen b ≤ 900000) : VP Tryz.prog G 188 [IV (a : Int), IV (b : Int)] (IV ((a / b : Nat) : Int)) := r2quo_ok has_setsquareref02_quo a b (dm206 G a b hb0 ha hb)
theorem rfi159 (a : Int) (h1 : -9223372036854775808 ≤ a) (h2 : a < 9223372036854775808) : VP Tryz.prog G 159 [.int .i64 a] (RV a 1) := r2fromInt_ok has_setsquareref02_FromInt a (fi160 G a h1 h2) (fi160 G 1 (by decide) (by decide))
theorem on180 (z : Int) : VP Tryz.prog G 180 [IV z] (.bool (decide (z = 1))) := r2one_ok has_setsquareref02_one z
theorem h158 : Has Tryz.prog 158 (w_rational_Sign 179) := has_setsquareref02_Sign
theorem rs158 (a b : Int) (ha : wlen a.natAbs ≤ 1000000) : VP Tryz.prog G 158 [RV a b] (.int .i64 a.sign) := rsign_ok h158 a b (g179 G a ha)
theorem h157 : Has Tryz.prog 157 (w_rational_Valid 178 179 181 180) := has_setsquareref02_Valid
theorem m163 (a b : Nat) (hb : b ≠ 0) (hb1 : b ≠ 1) (hg : Nat.gcd a b = 1) (ha : wlen a ≤ 1000) (hwb : wlen b ≤ 1000) :
    VP Tryz.prog G 163 [RV (a : Int) (b : Int), RV 10 1] (RV ((10 * a / Nat.gcd (10 * a) b : Nat) : Int) ((b / Nat.gcd (10 * a) b : Nat) : Int)) := by
  have h10 : wlen 10 ≤ 1 := wlen_le (by decide)
  have h1 : wlen 1 ≤ 1 := wlen_one
  have ha0 : a ≠ 0 := fun e => by rw [e, Nat.gcd_zero_left] at hg; exact hb1 hg
  have hgd : Nat.gcd (10 * a) b = Nat.gcd 10 b := Nat.Coprime.gcd_mul_right_cancel 10 hg
  have hb10 : Nat.gcd 10 b ≤ 10 := Nat.le_of_dvd (by decide) (Nat.gcd_dvd_left _ _)
  have hgp : 0 < Nat.gcd 10 b := Nat.gcd_pos_of_pos_left _ (by decide)
  have hgl : wlen (Nat.gcd 10 b) ≤ 1 := Nat.le_trans (wlen_mono hb10) h10
  have hm : ∀ x y m n : Nat, x ≤ m → y ≤ n → wlen m ≤ 1000 → wlen n ≤ 1000 → VP Tryz.prog G 187 [IV (x : Int), IV (y : Int)] (IV ((x * y : Nat) : Int)) := fun x y m n hx hy hm hn => by
    have q1 := wlen_mono hx
    have q2 := wlen_mono hy
    have := mu187 G (x : Int) (y : Int) (by rw [Int.natAbs_natCast]; omega) (by rw [Int.natAbs_natCast]; omega)
    rwa [← Int.natCast_mul] at this
  have hqy : ∀ y, (y = Nat.gcd a 1 ∨ y = Nat.gcd 10 b) → y ≠ 0 ∧ wlen y ≤ 900000 := by
    rintro y (rfl | rfl)
    · rw [Nat.gcd_one_right]; exact ⟨by decide, by omega⟩
    · exact ⟨by omega, by omega⟩
  have h := r2mul_ok has_setsquareref02_Mul a b 10 1 (by decide) (rfi159 G 0 (by decide) (by decide)) (on180 G) (fun x y hx hy => hm x y a 10 hx hy (by omega) (by omega)) (fun x y hx hy => hm x y b 1 hx hy (by omega) (by omega))
    (g181 G (a : Int) (1 : Nat) (by rw [Int.natAbs_natCast]; omega) (by show wlen 1 ≤ _; omega)) (g181 G (10 : Nat) (b : Int) (by show wlen 10 ≤ _; omega) (by rw [Int.natAbs_natCast]; omega))
    (fun x y hx hy => q188 G x y (hqy y hy).1 (by rcases hx with rfl | rfl | rfl | rfl <;> omega) (hqy y hy).2)
  rw [if_neg ha0, if_neg (fun e => hb1 e.1), Nat.gcd_one_right, Nat.div_one, Nat.div_one, Nat.mul_one] at h
  have e : 10 * a / Nat.gcd (10 * a) b = a * (10 / Nat.gcd 10 b) := by
    rw [hgd, Nat.mul_comm 10 a, Nat.mul_div_assoc _ (Nat.gcd_dvd_left _ _)]
  rw [e, hgd]
  exact h
end
end Go.Proofs.YtcomlgfjnjpebaaGreatDoor
end

section
namespace Go.VL
structure Rewrote (w w' : World) (g : Nat) (row : List Value) : Prop where
  os : w'.os = w.os
  tape : w'.tape = w.tape
  output : w'.output = w.output
  size : w.heap.size ≤ w'.heap.size
  other : ∀ k, k < w.heap.size → k ≠ g → w'.heap[k]? = w.heap[k]?
  here : ∀ cur ty, w.heap[g]? = some (.cells cur ty (0, 0)) → ∃ cur', w'.heap[g]? = some (.cells cur' ty (0, 0)) ∧ cur'.size = cur.size ∧ ∀ (j : Nat) v, row[j]? = some v → cur'[j]? = some v
theorem flat_ones : ∀ {es : List AV}, (∀ e ∈ es, e.cells = [e]) → flat es = es
  | [], _ => rfl
  | e :: es, h => by
    have h1 : flat (e :: es) = e.cells ++ flat es := rfl
    rw [h1, h e (by simp), flat_ones fun x hx => h x (by simp [hx])]; rfl
theorem CallRel.of_rewrote {P : Program} {G : Nat → Option (List AV)} {f : FuncId} {fn : Func} (hf : P.funcs[f]? = some fn) (hname : (fn.name == "runtime.NumGoroutine") = false) (hb : fn.body.isSome = true) {id p : Id} (hid : ¬ p <:+ id)
    {es es' : List AV} (hlen : es'.length = es.length) (hc' : ∀ e ∈ es', e.cells = [e]) (hc : ∀ e ∈ es, e.cells = [e]) {val : AV} {row : List Value} (hrow : ∀ E w, RepL E w es' row)
    (hval : ∀ E w (g N cap : Nat), E.μ id = some (g, 1, N) → es.length ≤ cap → cap = N → N ≤ maxLen → ∀ v, (v = Value.tuple #[] ∧ val = .tup []) ∨ (∃ m, m ≤ es.length ∧ v = .slice (some ⟨g, 0, none⟩) m cap ∧ val = .osl id 1 0 m false) → Rep E w val v)
    (h : ∀ (w : World) (g cap : Nat) (cur : Array Value) (ty : TypeId) (E : Env), w.heap[g]? = some (.cells cur ty (0, 0)) → es.length ≤ cap → cap ≤ maxLen → (∀ (j : Nat) c, es[j]? = some c → ∃ v, cur[j]? = some v ∧ Rep E w c v) →
      Calls P f #[.slice (some ⟨g, 0, none⟩) es.length cap] w fun e w' => ∃ v, e = .returned v ∧ ((v = Value.tuple #[] ∧ val = .tup []) ∨ (∃ m, m ≤ es.length ∧ v = .slice (some ⟨g, 0, none⟩) m cap ∧ val = .osl id 1 0 m false)) ∧ Rewrote w w' g row) :
    CallRel P G f [.osl id 1 0 es.length false] p [(id, ⟨es, 1, false⟩)] { val := val, rd := [id], up := [(id, some ⟨es', 1, false⟩)] } := by
  refine ⟨⟨fn, hf, hname, hb⟩, fun own E w σ vs hS hi hr _ => ?_⟩
  have hσ : σ id = some ⟨es, 1, false⟩ := hS (id, ⟨es, 1, false⟩) (by simp)
  obtain ⟨g, N, cur, ty, hB⟩ := hi.blk id _ hσ
  simp only [RepL, Rep] at hr
  obtain ⟨v, _, rfl, ⟨g', N', cap, hm, rfl, hle, hcapN, hN, hcap⟩, rfl⟩ := hr
  rw [hB.μ] at hm
  simp only [Option.some.injEq, Prod.mk.injEq] at hm
  obtain ⟨rfl, _, rfl⟩ := hm
  simp only [Bool.false_eq_true, if_false, Nat.zero_add] at hcap
  subst hcap
  have hrd : ∀ (j : Nat) c, es[j]? = some c → ∃ v, cur[j]? = some v ∧ Rep E w c v := fun j c hj => by
    have h1 := hB.row j c (by show (flat es)[j]? = some c; rw [flat_ones hc]; exact hj)
    rw [Nat.zero_add] at h1
    obtain ⟨v, hv, hrv⟩ := h1
    refine ⟨v, ?_, hrv⟩
    have := hv
    unfold World.cell? at this
    rw [show ((⟨g, j, none⟩ : Addr)).block = g from rfl, hB.heap] at this
    simpa using this
  refine (h w g cap cur ty E hB.heap hle hN hrd).mono ?_
  rintro e w' ⟨v, rfl, hv, hR⟩
  obtain ⟨cur', hcur', hsz, hrow'⟩ := hR.here cur ty hB.heap
  have hno := hB.no rfl
  have hs : Step E E w w' := ⟨fun _ _ h => h, fun _ h => h, fun b hb => hR.other b (hi.okb b hb) (fun e => hno (e ▸ hb))⟩
  have hadv : Adv own E E w w' := ⟨hs, hR.os, hR.tape, hR.output, hR.size, fun k hk hnk => hR.other k hk (fun e => hnk (e ▸ hB.own)), fun _ h => .inl h⟩
  refine ⟨v, E, rfl, hadv, ⟨fun b hb => Nat.lt_of_lt_of_le (hi.okb b hb) hR.size, ?_, ?_, ?_, fun k hk => hi.new k (Nat.le_trans hR.size hk)⟩, hval E w' g cap cap hB.μ hle rfl hN v hv, fun _ _ => rfl⟩
  · intro i bk' hi'
    by_cases hie : i = id
    · subst hie
      simp only [Store.app, Store.put_same, Option.some.injEq] at hi'
      subst hi'
      refine ⟨g, cap, cur', ty, hB.μ, hcur', by rw [hsz]; exact hB.size, by show es'.length ≤ cap; omega, hB.most, hB.own, by simp, hB.no, ?_, ?_⟩
      · intro e he; show e.cells.length = 1; rw [hc' e he]; rfl
      · intro j c hj
        have hj' : es'[j]? = some c := by
          have : flat es' = es' := flat_ones hc'
          rw [← this]; exact hj
        obtain ⟨v, hv, hrv⟩ := (repL_iff.1 (hrow E w')).2 j c hj'
        refine ⟨v, ?_, hrv⟩
        unfold World.cell?
        rw [Nat.zero_add, show ((⟨g, j, none⟩ : Addr)).block = g from rfl, hcur']
        simpa using hrow' j v hv
    · simp only [Store.app] at hi'
      rw [Store.put_other _ _ _ hie] at hi'
      obtain ⟨g2, N2, cur2, ty2, hB2⟩ := hi.blk i bk' hi'
      have hne : g2 ≠ g := hi.inj i id _ _ (by rw [hi']; simp) (by rw [hσ]; simp) hie hB2.μ hB.μ
      exact ⟨g2, N2, cur2, ty2, hB2.keep hs (hR.other g2 (cells_lt hB2.heap) hne) hB2.no⟩
  · intro i j x y hi' hj' hij hx hy
    refine hi.inj i j x y ?_ ?_ hij hx hy
    · by_cases hie : i = id
      · subst hie; rw [hσ]; simp
      · simpa [Store.app, Store.put_other _ _ _ hie] using hi'
    · by_cases hie : j = id
      · subst hie; rw [hσ]; simp
      · simpa [Store.app, Store.put_other _ _ _ hie] using hj'
  · intro g cs hg
    obtain ⟨h1, h2⟩ := hi.glob g cs hg
    exact ⟨h1, RepCells.keep hs.bare (hs.same g h1) cs 0 h2⟩
end Go.VL
end

section
namespace Go.Proofs
open Go.VL Go.RowKit Go.Sort
theorem mapBlock_here {w : World} {g : Nat} {f : Array Value → Array Value} {cur : Array Value} {ty : TypeId} {fr : Nat × Nat} (h : w.heap[g]? = some (.cells cur ty fr)) : (mapBlock w g f).heap[g]? = some (.cells (f cur) ty fr) := by
  unfold mapBlock
  simp only [Array.getElem?_modify, if_true, h, Option.map_some]; rfl
theorem mapBlock_other {w : World} {g k : Nat} {f : Array Value → Array Value} (h : k ≠ g) : (mapBlock w g f).heap[k]? = w.heap[k]? := by
  unfold mapBlock
  simp only [Array.getElem?_modify, if_neg (Ne.symm h)]
theorem rewrote_put {w : World} {g n : Nat} {os : Array Obj} {l' : List (List UInt8)} {cap : Nat} (hl : ∀ cur ty, w.heap[g]? = some (.cells cur ty (0, 0)) → l'.length ≤ cur.size) (hg : g < w.heap.size) :
    Rewrote w (grow (putRow encStr (Go.Sort.ahead w n) g 0 l'.toArray) os) g (l'.map encStr) := by
  have hsz : (putRow encStr (Go.Sort.ahead w n) g 0 l'.toArray).heap.size = w.heap.size := by rw [size_putRow]; rfl
  have hold : ∀ k, k < w.heap.size → (grow (putRow encStr (Go.Sort.ahead w n) g 0 l'.toArray) os).heap[k]? = (putRow encStr (Go.Sort.ahead w n) g 0 l'.toArray).heap[k]? := fun k hk => by
    show ((putRow encStr (Go.Sort.ahead w n) g 0 l'.toArray).heap ++ os)[k]? = _
    rw [Array.getElem?_append_left (by omega)]
  refine ⟨rfl, rfl, rfl, ?_, fun k hk hne => ?_, fun cur ty hc => ?_⟩
  · show w.heap.size ≤ ((putRow encStr (Go.Sort.ahead w n) g 0 l'.toArray).heap ++ os).size
    rw [Array.size_append]; omega
  · rw [hold k hk]; exact mapBlock_other hne
  · refine ⟨putCells encStr 0 l'.toArray cur, ?_, by simp [putCells], fun j v hj => ?_⟩
    · rw [hold g hg]; exact mapBlock_here (w := Go.Sort.ahead w n) hc
    · have hlc := hl cur ty hc
      rw [List.getElem?_map] at hj
      cases hs : l'[j]? with
      | none => rw [hs] at hj; cases hj
      | some s =>
        rw [hs] at hj
        simp only [Option.map_some, Option.some.injEq] at hj
        subst hj
        have hjl : j < l'.length := (List.getElem?_eq_some_iff.1 hs).1
        have hjc : j < cur.size := by omega
        simp only [putCells, Array.getElem?_mapIdx, Array.getElem?_eq_getElem hjc, Option.map_some, Nat.zero_le, true_and, Nat.zero_add, List.size_toArray, hjl, if_true, Nat.sub_zero]
        congr 1
        rw [getElem!_pos l'.toArray j (by simpa using hjl)]
        simp only [List.getElem_toArray]
        rw [List.getElem?_eq_getElem hjl] at hs
        exact congrArg encStr (Option.some.inj hs)
theorem strs_cells : ∀ {l : List (List UInt8)}, ∀ e ∈ l.map AV.str, e.cells = [e] := fun e he => by obtain ⟨s, _, rfl⟩ := List.mem_map.1 he; rfl
theorem strs_row (E : Env) (w : World) : ∀ l : List (List UInt8), RepL E w (l.map AV.str) (l.map encStr)
  | [] => rfl
  | s :: l => by
    simp only [List.map_cons, RepL, Rep]
    exact ⟨_, _, rfl, rfl, strs_row E w l⟩
theorem holds_of {w : World} {g : Nat} {l : List (List UInt8)} {cur : Array Value} {ty : TypeId} {E : Env} (hc : w.heap[g]? = some (.cells cur ty (0, 0))) (h : ∀ (j : Nat) c, (l.map AV.str)[j]? = some c → ∃ v, cur[j]? = some v ∧ Rep E w c v) : Holds encStr w g 0 l.toArray := by
  intro j hj
  have hjl : j < l.length := by simpa using hj
  obtain ⟨v, hv, hr⟩ := h j (.str l[j]) (by rw [List.getElem?_map, List.getElem?_eq_getElem hjl]; rfl)
  simp only [Rep] at hr
  subst hr
  refine ⟨?_, ?_⟩
  · unfold World.cell?
    rw [show ((⟨g, 0 + j, none⟩ : Addr)).block = g from rfl, hc, getElem!_pos l.toArray j hj]
    simpa using hv
  · unfold World.frozen?
    rw [show ((⟨g, 0 + j, none⟩ : Addr)).block = g from rfl, hc]
    simp
theorem len_of {l : List (List UInt8)} {cur : Array Value} {E : Env} {w : World} (h : ∀ (j : Nat) c, (l.map AV.str)[j]? = some c → ∃ v, cur[j]? = some v ∧ Rep E w c v) : l.length ≤ cur.size := by
  rcases Nat.lt_or_ge cur.size l.length with hlt | hge
  · obtain ⟨v, hv, _⟩ := h cur.size (.str (l[cur.size])) (by rw [List.getElem?_map, List.getElem?_eq_getElem hlt]; rfl)
    simp at hv
  · exact hge
def sortS (l : List (List UInt8)) : List (List UInt8) := l.mergeSort fun x y => decide (x ≤ y)
theorem sortS_len (l : List (List UInt8)) : (sortS l).length = l.length := List.length_mergeSort _
theorem compact_len (l : List (List UInt8)) : (Lib.compact l).length ≤ l.length := by
  unfold Lib.compact Lib.compactUpTo
  rw [List.length_map]
  exact Nat.le_trans (List.length_filter_le _ _) (by rw [List.length_range]; exact Nat.le_refl _)
theorem Tryz.sort_rel (G : Nat → Option (List AV)) (l : List (List UInt8)) (hl : l.length ≤ 1000000) {id p : VL.Id} (hid : ¬ p <:+ id) :
    CallRel Tryz.prog G 31 [.osl id 1 0 l.length false] p [(id, ⟨l.map .str, 1, false⟩)] { val := .tup [], rd := [id], up := [(id, some ⟨(sortS l).map .str, 1, false⟩)] } := by
  have hm : (l.map AV.str).length = l.length := List.length_map _
  have := CallRel.of_rewrote (G := G) (P := Tryz.prog) Tryz.func31 (by kernel_rfl) (by kernel_rfl) hid (es := l.map .str) (es' := (sortS l).map .str) (by rw [List.length_map, List.length_map, sortS_len]) strs_cells strs_cells (val := .tup []) (row := (sortS l).map encStr) (fun E w => strs_row E w _)
    (fun E w g N cap _ _ _ _ v hv => by
      rcases hv with ⟨rfl, _⟩ | ⟨_, _, _, h⟩
      · simp only [Rep]; exact ⟨#[], rfl, by simp [RepL]⟩
      · cases h)
    (fun w g cap cur ty E hc hle hcap hrd => by
      rw [hm]
      refine (Tryz.slices_Sort_string g 0 cap l w (holds_of hc hrd) (cells_lt hc) (by omega)).mono ?_
      rintro e w' ⟨rfl, n, os, rfl⟩
      refine ⟨_, rfl, .inl ⟨rfl, rfl⟩, rewrote_put (cap := cap) (fun cur' ty' hc' => ?_) (cells_lt hc)⟩
      rw [hc] at hc'
      simp only [Option.some.injEq, Obj.cells.injEq] at hc'
      rw [← hc'.1]
      have := len_of hrd
      rw [List.length_mergeSort]; exact this)
  rwa [hm] at this
theorem Tryz.compact_rel (G : Nat → Option (List AV)) (l : List (List UInt8)) (hl : l.length ≤ 1000000) {id p : VL.Id} (hid : ¬ p <:+ id) :
    CallRel Tryz.prog G 32 [.osl id 1 0 l.length false] p [(id, ⟨l.map .str, 1, false⟩)]
      { val := .osl id 1 0 (Lib.compact l).length false, rd := [id], up := [(id, some ⟨(Lib.compact l ++ List.replicate (l.length - (Lib.compact l).length) []).map .str, 1, false⟩)] } := by
  have hm : (l.map AV.str).length = l.length := List.length_map _
  have hcl : (Lib.compact l).length ≤ l.length := compact_len l
  have := CallRel.of_rewrote (G := G) (P := Tryz.prog) Tryz.func32 (by kernel_rfl) (by kernel_rfl) hid (es := l.map .str) (es' := (Lib.compact l ++ List.replicate (l.length - (Lib.compact l).length) []).map .str)
    (by rw [List.length_map, List.length_map, List.length_append, List.length_replicate]; omega) strs_cells strs_cells (val := .osl id 1 0 (Lib.compact l).length false) (row := (Lib.compact l ++ List.replicate (l.length - (Lib.compact l).length) []).map encStr) (fun E w => strs_row E w _)
    (fun E w g N cap hμ hle hcN hN v hv => by
      rcases hv with ⟨_, h⟩ | ⟨m, hmm, rfl, h⟩
      · cases h
      · simp only [AV.osl.injEq, true_and, and_true] at h
        subst h
        simp only [Rep]
        refine ⟨g, N, cap, hμ, by simp, by rw [hm] at hle; omega, by omega, hN, by simp; omega⟩)
    (fun w g cap cur ty E hc hle hcap hrd => by
      rw [hm]
      refine (Tryz.slices_Compact_string g 0 cap l w (holds_of hc hrd) (by omega) (by rw [hm] at hle; exact hle)).mono ?_
      rintro e w' ⟨rfl, q, rfl⟩
      refine ⟨_, rfl, .inr ⟨_, hcl, rfl, rfl⟩, ?_⟩
      have hr := rewrote_put (w := w) (g := g) (n := q) (os := #[]) (l' := Lib.compact l ++ List.replicate (l.length - (Lib.compact l).length) []) (cap := cap) (fun cur' ty' hc' => ?_) (cells_lt hc)
      · rwa [grow_empty] at hr
      · rw [hc] at hc'
        simp only [Option.some.injEq, Obj.cells.injEq] at hc'
        rw [← hc'.1]
        have := len_of hrd
        rw [List.length_append, List.length_replicate]; omega)
  rwa [hm] at this
theorem Tryz.cut_vp (G : Nat → Option (List AV)) {m : Int} (hG : G 1 = some [.int .i64 m]) (s : List UInt8) (hs : s.length < 4294967281) :
    VP Tryz.prog G 30 [.str s, .str [47]] (.tup [.str (Lib.cut s [47]).1, .str (Lib.cut s [47]).2.1, .bool (Lib.cut s [47]).2.2]) := by
  refine VP.of_call (r := { val := .tup [.str (Lib.cut s [47]).1, .str (Lib.cut s [47]).2.1, .bool (Lib.cut s [47]).2.2] }) (CallRel.of_below Tryz.func30 (by kernel_rfl) (by kernel_rfl) ?_) ?_
  · intro own E w σ vs _ hi hr
    simp only [RepL] at hr
    obtain ⟨v, _, rfl, rfl, v2, _, rfl, rfl, rfl⟩ := hr
    have hg := (hi.glob 1 _ hG).2
    simp only [RepCells, Rep] at hg
    obtain ⟨⟨v, hv, rfl⟩, _⟩ := hg
    refine (Tryz.strings_Cut ⟨s.toArray⟩ ⟨#[47]⟩ m w (by rw [Lib.size_eq]; exact hs) hv).mono ?_
    rintro e w' ⟨rfl, n, rfl⟩
    refine ⟨_, rfl, ⟨rfl, rfl, rfl, Nat.le_refl _, fun _ _ => rfl⟩, fun E w => ?_⟩
    simp [Rep, RepL]
  · intro E w E' w' v h
    simpa [Rep, RepL] using h
end Go.Proofs
end

section
set_option linter.unusedSimpArgs false
namespace Go.VL
open Go.Lib
def rrB (n1 : Bool) (w1 : List Nat) (n2 : Bool) (w2 : List Nat) : Bool := ivalid n1 w1 && ivalid n2 w2 && decide (0 < sgn n2 (val w2)) && decide (((Nat.gcd (val w1) (val w2) : Nat) : Int) = 1)
def decR (lim : Nat) (n1 : Bool) (w1 : List Nat) (n2 : Bool) (w2 : List Nat) : AV := if rrB n1 w1 n2 w2 = true ∧ ¬ sgn n1 (val w1) < 0 then decTup lim (val w1) (val w2) else .tup [.str [], .bool false]
def decB (n1 : Bool) (w1 : List Nat) (n2 : Bool) (w2 : List Nat) : Bool := rrB n1 w1 n2 w2 && !decide (sgn n1 (val w1) < 0) && decOk 40 (val w1) (val w2)
theorem decTup_shape (lim a b : Nat) : ∃ s, decTup lim a b = .tup [.str s, .bool (decOk lim a b)] := by
  unfold decTup decOk
  cases decGo lim 0 a b with
  | none => exact ⟨_, rfl⟩
  | some x => exact ⟨_, rfl⟩
theorem decR_shape (lim : Nat) (n1 : Bool) (w1 : List Nat) (n2 : Bool) (w2 : List Nat) (hl : ∀ a b, decOk lim a b = decOk 40 a b) : ∃ s, decR lim n1 w1 n2 w2 = .tup [.str s, .bool (decB n1 w1 n2 w2)] := by
  unfold decR decB
  by_cases h : rrB n1 w1 n2 w2 = true ∧ ¬ sgn n1 (val w1) < 0
  · rw [if_pos h]
    obtain ⟨s, e⟩ := decTup_shape lim (val w1) (val w2)
    refine ⟨s, ?_⟩
    rw [e, hl, h.1]; simp [h.2]
  · rw [if_neg h]
    refine ⟨_, congrArg (fun b => AV.tup [.str [], .bool b]) ?_⟩
    by_cases h1 : rrB n1 w1 n2 w2 = true
    · have : sgn n1 (val w1) < 0 := Decidable.byContradiction fun e => h ⟨h1, e⟩
      simp [this]
    · simp [h1]
theorem rrB_iv {n1 : Bool} {w1 : List Nat} {n2 : Bool} {w2 : List Nat} (hw1 : Wd w1) (hw2 : Wd w2) (h : rrB n1 w1 n2 w2 = true) :
    RR n1 w1 n2 w2 = RV (sgn n1 (val w1)) ((val w2 : Nat) : Int) ∧ val w2 ≠ 0 ∧ Nat.gcd (val w1) (val w2) = 1 := by
  unfold rrB at h
  simp only [Bool.and_eq_true, decide_eq_true_eq] at h
  obtain ⟨⟨⟨h1, h2⟩, h3⟩, h4⟩ := h
  have e1 := ir_iv hw1 h1
  have e2 := ir_iv hw2 h2
  have e3 : sgn n2 (val w2) = ((val w2 : Nat) : Int) := by
    cases n2
    · exact sgn_false _
    · simp [sgn] at h3; omega
  rw [e3] at e2 h3
  refine ⟨?_, by omega, by omega⟩
  unfold IR IV at e1 e2
  simp only [AV.agg.injEq, List.cons.injEq, and_true] at e1 e2
  unfold RR RV
  rw [e1.1, e1.2, e2.1, e2.2]
theorem RR_pure (n1 : Bool) (w1 : List Nat) (n2 : Bool) (w2 : List Nat) : PureAV (RR n1 w1 n2 w2) := PureAV.agg (by intro c hc; simp at hc; rcases hc with rfl | rfl | rfl | rfl; exact PureAV.bool _; exact us_pure _; exact PureAV.bool _; exact us_pure _)
section
variable {P : Program} {G : Nat → Option (List AV)}
theorem decimal_ok {f fV fS fRI fI fC fM fF fR : FuncId} (h : Has P f (w_formula_decimal fV fS fRI fI fC fM fF fR)) (n1 : Bool) (w1 : List Nat) (n2 : Bool) (w2 : List Nat) (hw1 : Wd w1) (hw2 : Wd w2) (hl1 : w1.length ≤ 8) (hl2 : w2.length ≤ 8)
    (hv : VP P G fV [RR n1 w1 n2 w2] (.bool (rrB n1 w1 n2 w2))) (hs : ∀ a b : Int, wlen a.natAbs ≤ 1000 → VP P G fS [RV a b] (.int .i64 a.sign))
    (hgo : ∀ a b : Nat, b ≠ 0 → Nat.gcd a b = 1 → wlen a ≤ 8 → wlen b ≤ 8 → VP P G fV [RV (a : Int) (b : Int)] (.bool true) → VP P G f [RV (a : Int) (b : Int)] (decTup 40 a b)) :
    VP P G f [RR n1 w1 n2 w2] (decR 40 n1 w1 n2 w2) := by
  have hwv1 : wlen (val w1) ≤ 8 := Nat.le_trans (wlen_val hw1) hl1
  have hwv2 : wlen (val w2) ≤ 8 := Nat.le_trans (wlen_val hw2) hl2
  by_cases hr : rrB n1 w1 n2 w2 = true
  · obtain ⟨e, hb0, hg⟩ := rrB_iv hw1 hw2 hr
    by_cases hn : sgn n1 (val w1) < 0
    · unfold decR
      rw [if_neg (fun q => q.2 hn)]
      rw [e, hr] at hv
      rw [e]
      have hs' := hs (sgn n1 (val w1)) ((val w2 : Nat) : Int) (by cases n1 <;> simp [sgn] <;> omega)
      have d0 : decide ((sgn n1 (val w1)).sign < 0) = true := dec_true (by rw [Int.sign_eq_neg_one_of_neg hn]; decide)
      refine VP.has h ?_
      simp only [w_formula_decimal, SS, Nat.reduceAdd, reduceIte, RV_one, load_put, RV_all]
      refine vsCall_VP hv (by simp [RV_pure]) ?_
      simp only [SS, Nat.reduceAdd, reduceIte, load_put, RV_all]
      refine vsCall_VP hs' (by simp [RV_pure]) ?_
      simp only [SS, Nat.reduceAdd, reduceIte, d0]
      exact retQ_ret ▸ retQ_of_pure rfl (decRes_pure _ _)
    · unfold decR
      rw [if_pos ⟨hr, hn⟩]
      have e1 : sgn n1 (val w1) = ((val w1 : Nat) : Int) := by
        cases n1
        · exact sgn_false _
        · simp [sgn] at hn ⊢; omega
      rw [e, e1, hr] at hv
      rw [e, e1]
      exact hgo _ _ hb0 hg hwv1 hwv2 hv
  · unfold decR
    rw [if_neg (fun q => hr q.1)]
    have hr' : rrB n1 w1 n2 w2 = false := by simpa using hr
    rw [hr'] at hv
    refine VP.has h ?_
    simp only [w_formula_decimal, SS, Nat.reduceAdd, reduceIte, RR_one, load_put, RR_all]
    refine vsCall_VP hv (by simp [RR_pure]) ?_
    simp only [SS, Nat.reduceAdd, reduceIte]
    exact retQ_ret ▸ retQ_of_pure rfl (decRes_pure _ _)
theorem rdecimal_ok {f fV fS fRI fI fE fF fM : FuncId} (h : Has P f (w_setsquareref22_Decimal fV fS fRI fI fE fF fM)) (n1 : Bool) (w1 : List Nat) (n2 : Bool) (w2 : List Nat) (hw1 : Wd w1) (hw2 : Wd w2) (hl1 : w1.length ≤ 8) (hl2 : w2.length ≤ 8)
    (hv : VP P G fV [RR n1 w1 n2 w2] (.bool (rrB n1 w1 n2 w2))) (hs : ∀ a b : Int, wlen a.natAbs ≤ 1000 → VP P G fS [RV a b] (.int .i64 a.sign))
    (hgo : ∀ a b : Nat, b ≠ 0 → Nat.gcd a b = 1 → wlen a ≤ 8 → wlen b ≤ 8 → VP P G fV [RV (a : Int) (b : Int)] (.bool true) → VP P G f [RV (a : Int) (b : Int)] (decTup 41 a b)) :
    VP P G f [RR n1 w1 n2 w2] (decR 41 n1 w1 n2 w2) := by
  have hwv1 : wlen (val w1) ≤ 8 := Nat.le_trans (wlen_val hw1) hl1
  have hwv2 : wlen (val w2) ≤ 8 := Nat.le_trans (wlen_val hw2) hl2
  by_cases hr : rrB n1 w1 n2 w2 = true
  · obtain ⟨e, hb0, hg⟩ := rrB_iv hw1 hw2 hr
    by_cases hn : sgn n1 (val w1) < 0
    · unfold decR
      rw [if_neg (fun q => q.2 hn)]
      rw [e, hr] at hv
      rw [e]
      have hs' := hs (sgn n1 (val w1)) ((val w2 : Nat) : Int) (by cases n1 <;> simp [sgn] <;> omega)
      have d0 : decide ((sgn n1 (val w1)).sign < 0) = true := dec_true (by rw [Int.sign_eq_neg_one_of_neg hn]; decide)
      refine VP.has h ?_
      simp only [w_setsquareref22_Decimal, SS, Nat.reduceAdd, reduceIte, RV_one, load_put, RV_all]
      refine vsCall_VP hv (by simp [RV_pure]) ?_
      simp only [SS, Nat.reduceAdd, reduceIte, load_put, RV_all]
      refine vsCall_VP hs' (by simp [RV_pure]) ?_
      simp only [SS, Nat.reduceAdd, reduceIte, d0]
      exact retQ_ret ▸ retQ_of_pure rfl (decRes_pure _ _)
    · unfold decR
      rw [if_pos ⟨hr, hn⟩]
      have e1 : sgn n1 (val w1) = ((val w1 : Nat) : Int) := by
        cases n1
        · exact sgn_false _
        · simp [sgn] at hn ⊢; omega
      rw [e, e1, hr] at hv
      rw [e, e1]
      exact hgo _ _ hb0 hg hwv1 hwv2 hv
  · unfold decR
    rw [if_neg (fun q => hr q.1)]
    have hr' : rrB n1 w1 n2 w2 = false := by simpa using hr
    rw [hr'] at hv
    refine VP.has h ?_
    simp only [w_setsquareref22_Decimal, SS, Nat.reduceAdd, reduceIte, RR_one, load_put, RR_all]
    refine vsCall_VP hv (by simp [RR_pure]) ?_
    simp only [SS, Nat.reduceAdd, reduceIte]
    exact retQ_ret ▸ retQ_of_pure rfl (decRes_pure _ _)
end
end Go.VL
end

section
set_option linter.unusedSimpArgs false
namespace Go.VL
section
variable {P : Program} {G : Nat → Option (List AV)}
theorem slices_IndexFunc_Lstring_string_ok {f fw : FuncId} (h : Has P f w_slices_IndexFunc_Lstring_string) {a c : List AV} {es : List AV} (hk : ∀ e ∈ es, part false e.cells 0 1 = some e) {p : AV → Bool} (hw : ∀ e ∈ es, VP P G fw (a ++ [e] ++ c) (.bool (p e)))
    (hp : ∀ e ∈ es, PureAV e) (ha : ∀ x ∈ a, PureAV x) (hc : ∀ x ∈ c, PureAV x) (hl : es.length < 9223372036854775807) : VP P G f [.sl 1 es, .fn (.func fw) a c] (.int .i64 (idxI (es.findIdx? p))) := by
  refine VP.has h ?_
  simp only [w_slices_IndexFunc_Lstring_string, SS, Nat.reduceAdd, reduceIte, vwp_loop]
  refine VW.loopQ (α := Nat × Nat) (fun x => ⟨[.sl 1 es, .fn (.func fw) a c, .top, .top, .top, .top, .top, .int .i64 es.length, .int .i64 x.1] ++ List.replicate 10 .top, fun _ => none, x.2⟩) (fun x => x.1 ≤ es.length ∧ ∀ (j : Nat) e, j < x.1 → es[j]? = some e → p e = false) (fun x => es.length - x.1) (0, 4) ?_ ⟨Nat.zero_le _, fun j e hj => absurd hj (Nat.not_lt_zero j)⟩ ?_
  · exact Wk.slots (by simp [Fg, List.replicate]) (Nat.le_refl _)
  rintro ⟨i, n⟩ ⟨hi, hn⟩
  simp only [] at hi hn
  simp only [SS, Nat.reduceAdd, reduceIte]
  by_cases hlt : i < es.length
  · have h1 : (i : Int) < (es.length : Int) := by omega
    obtain ⟨e, he⟩ : ∃ e, es[i]? = some e := ⟨es[i], by simp [hlt]⟩
    have hm := List.mem_of_getElem? he
    simp only [SS, Nat.reduceAdd, reduceIte, h1, decide_true, iaddrS_sl rfl he, vload_ep, hk e hm]
    refine vsCall_VP (hw e hm) (by
      intro x hx
      simp only [List.mem_append, List.mem_singleton] at hx
      rcases hx with (hx | rfl) | hx
      · exact ha x hx
      · exact hp _ hm
      · exact hc x hx) ?_
    cases hpe : p e
    · simp only [SS, Nat.reduceAdd, reduceIte, wrap_succ_i64 i (by omega)]
      refine ⟨(i + 1, _), ⟨by simp only []; omega, ?_⟩, by simp only []; omega, Wk.slots (by simp [Fg, List.replicate]) (Nat.le_refl _)⟩
      intro j e' hj hje
      by_cases hji : j < i
      · exact hn j e' hji hje
      · have : j = i := by simp only [] at hj; omega
        subst this; rw [he] at hje; simp only [Option.some.injEq] at hje; subst hje; exact hpe
    · simp only [SS, Nat.reduceAdd, reduceIte]
      rw [findIdx_some he hpe hn]
      exact retQ_ret ▸ retQ_of_pure rfl (PureAV.int _ _)
  · have h1 : ¬ (i : Int) < (es.length : Int) := by omega
    simp only [SS, Nat.reduceAdd, reduceIte, h1, decide_false]
    rw [findIdx_none (fun j e hj => hn j e (by have := (List.getElem?_eq_some_iff.1 hj).1; omega) hj)]
    exact retQ_ret ▸ retQ_of_pure rfl (PureAV.int _ _)
theorem slices_IndexFunc_Lapi_Expr_api_Expr_ok {f fw : FuncId} (h : Has P f w_slices_IndexFunc_Lapi_Expr_api_Expr) {a c : List AV} {es : List AV} (hk : ∀ e ∈ es, part true e.cells 0 7 = some e) {p : AV → Bool} (hw : ∀ e ∈ es, VP P G fw (a ++ [e] ++ c) (.bool (p e)))
    (hp : ∀ e ∈ es, PureAV e) (ha : ∀ x ∈ a, PureAV x) (hc : ∀ x ∈ c, PureAV x) (hl : es.length < 9223372036854775807) : VP P G f [.sl 7 es, .fn (.func fw) a c] (.int .i64 (idxI (es.findIdx? p))) := by
  refine VP.has h ?_
  simp only [w_slices_IndexFunc_Lapi_Expr_api_Expr, SS, Nat.reduceAdd, reduceIte, vwp_loop]
  refine VW.loopQ (α := Nat × Nat) (fun x => ⟨[.sl 7 es, .fn (.func fw) a c, .top, .top, .top, .top, .top, .int .i64 es.length, .int .i64 x.1] ++ List.replicate 10 .top, fun _ => none, x.2⟩) (fun x => x.1 ≤ es.length ∧ ∀ (j : Nat) e, j < x.1 → es[j]? = some e → p e = false) (fun x => es.length - x.1) (0, 4) ?_ ⟨Nat.zero_le _, fun j e hj => absurd hj (Nat.not_lt_zero j)⟩ ?_
  · exact Wk.slots (by simp [Fg, List.replicate]) (Nat.le_refl _)
  rintro ⟨i, n⟩ ⟨hi, hn⟩
  simp only [] at hi hn
  simp only [SS, Nat.reduceAdd, reduceIte]
  by_cases hlt : i < es.length
  · have h1 : (i : Int) < (es.length : Int) := by omega
    obtain ⟨e, he⟩ : ∃ e, es[i]? = some e := ⟨es[i], by simp [hlt]⟩
    have hm := List.mem_of_getElem? he
    simp only [SS, Nat.reduceAdd, reduceIte, h1, decide_true, iaddrS_sl rfl he, vload_ep, hk e hm]
    refine vsCall_VP (hw e hm) (by
      intro x hx
      simp only [List.mem_append, List.mem_singleton] at hx
      rcases hx with (hx | rfl) | hx
      · exact ha x hx
      · exact hp _ hm
      · exact hc x hx) ?_
    cases hpe : p e
    · simp only [SS, Nat.reduceAdd, reduceIte, wrap_succ_i64 i (by omega)]
      refine ⟨(i + 1, _), ⟨by simp only []; omega, ?_⟩, by simp only []; omega, Wk.slots (by simp [Fg, List.replicate]) (Nat.le_refl _)⟩
      intro j e' hj hje
      by_cases hji : j < i
      · exact hn j e' hji hje
      · have : j = i := by simp only [] at hj; omega
        subst this; rw [he] at hje; simp only [Option.some.injEq] at hje; subst hje; exact hpe
    · simp only [SS, Nat.reduceAdd, reduceIte]
      rw [findIdx_some he hpe hn]
      exact retQ_ret ▸ retQ_of_pure rfl (PureAV.int _ _)
  · have h1 : ¬ (i : Int) < (es.length : Int) := by omega
    simp only [SS, Nat.reduceAdd, reduceIte, h1, decide_false]
    rw [findIdx_none (fun j e hj => hn j e (by have := (List.getElem?_eq_some_iff.1 hj).1; omega) hj)]
    exact retQ_ret ▸ retQ_of_pure rfl (PureAV.int _ _)
theorem slices_ContainsFunc_Lstring_string_ok {f fi fw : FuncId} (h : Has P f (w_slices_ContainsFunc_Lstring_string fi)) {a c : List AV} {es : List AV} {p : AV → Bool} (hi : VP P G fi [.sl 1 es, .fn (.func fw) a c] (.int .i64 (idxI (es.findIdx? p))))
    (hp : PureAV (.sl 1 es)) (hfn : PureAV (.fn (.func fw) a c)) : VP P G f [.sl 1 es, .fn (.func fw) a c] (.bool (es.any p)) := by
  refine VP.has h ?_
  simp only [w_slices_ContainsFunc_Lstring_string, SS, Nat.reduceAdd, reduceIte]
  refine vsCall_VP hi (by intro x hx; simp at hx; rcases hx with rfl | rfl <;> assumption) ?_
  simp only [SS, Nat.reduceAdd, reduceIte]
  have e : decide (0 ≤ idxI (es.findIdx? p)) = es.any p := by
    rw [← List.findIdx?_isSome]
    cases es.findIdx? p <;> simp [idxI]
  rw [e]
  exact retQ_ret ▸ retQ_of_pure rfl (PureAV.bool _)
theorem slices_ContainsFunc_Lapi_Expr_api_Expr_ok {f fi fw : FuncId} (h : Has P f (w_slices_ContainsFunc_Lapi_Expr_api_Expr fi)) {a c : List AV} {es : List AV} {p : AV → Bool} (hi : VP P G fi [.sl 7 es, .fn (.func fw) a c] (.int .i64 (idxI (es.findIdx? p))))
    (hp : PureAV (.sl 7 es)) (hfn : PureAV (.fn (.func fw) a c)) : VP P G f [.sl 7 es, .fn (.func fw) a c] (.bool (es.any p)) := by
  refine VP.has h ?_
  simp only [w_slices_ContainsFunc_Lapi_Expr_api_Expr, SS, Nat.reduceAdd, reduceIte]
  refine vsCall_VP hi (by intro x hx; simp at hx; rcases hx with rfl | rfl <;> assumption) ?_
  simp only [SS, Nat.reduceAdd, reduceIte]
  have e : decide (0 ≤ idxI (es.findIdx? p)) = es.any p := by
    rw [← List.findIdx?_isSome]
    cases es.findIdx? p <;> simp [idxI]
  rw [e]
  exact retQ_ret ▸ retQ_of_pure rfl (PureAV.bool _)
end
end Go.VL
end

section
set_option linter.unusedSimpArgs false
namespace Go.VL
structure Feat where
  name : List UInt8
  kind : Int
  inputs : List (List UInt8)
  values : List AV
  supp : Bool
def strs (l : List (List UInt8)) : AV := .sl 1 (l.map .str)
def Feat.av (f : Feat) : AV := .agg [.str f.name, .int .i64 f.kind, strs f.inputs, .sl 7 f.values, .bool f.supp]
def ExprLike (v : AV) : Prop := ∃ cs, v = .agg cs ∧ cs.length = 7 ∧ ∀ c ∈ cs, PureAV c ∧ c.one = true
structure Feat.Ok (f : Feat) : Prop where
  vals : ∀ v ∈ f.values, ExprLike v
  ins : f.inputs.length < 9223372036854775807
  vl : f.values.length < 9223372036854775807
theorem ExprLike.pure {v : AV} (h : ExprLike v) : PureAV v := by
  obtain ⟨cs, rfl, _, hc⟩ := h
  exact PureAV.agg fun c h => (hc c h).1
theorem ExprLike.part {v : AV} (h : ExprLike v) : part true v.cells 0 7 = some v := by
  obtain ⟨cs, rfl, hl, _⟩ := h
  simp [VL.part, AV.cells, hl]
  rw [← hl]; exact List.take_length
theorem flat_str : ∀ l : List (List UInt8), flat (l.map .str) = l.map .str
  | [] => rfl
  | s :: l => by have := flat_str l; simp only [List.map_cons, flat, List.flatMap_cons, AV.cells] at this ⊢; rw [this]; rfl
theorem strs_pure (l : List (List UInt8)) : PureAV (strs l) := PureAV.sl (by rw [flat_str]; intro c hc; simp at hc; obtain ⟨s, _, rfl⟩ := hc; exact PureAV.str s)
theorem vals_pure {l : List AV} (h : ∀ v ∈ l, ExprLike v) : PureAV (.sl 7 l) := PureAV.sl (by
  intro c hc
  simp only [flat, List.mem_flatMap] at hc
  obtain ⟨v, hv, hc⟩ := hc
  obtain ⟨cs, rfl, _, hcs⟩ := h v hv
  exact (hcs c hc).1)
theorem Feat.Ok.pure {f : Feat} (h : f.Ok) : PureAV f.av := PureAV.agg (by
  intro c hc
  simp only [List.mem_cons, List.not_mem_nil, or_false] at hc
  rcases hc with rfl | rfl | rfl | rfl | rfl
  · exact PureAV.str _
  · exact PureAV.int _ _
  · exact strs_pure _
  · exact vals_pure h.vals
  · exact PureAV.bool _)
theorem Feat.one (f : Feat) : (f.av.cells.all AV.one = true) = True := by simp [Feat.av, AV.cells, AV.one, strs]
theorem Feat.p0 (f : Feat) : part false f.av.cells 0 1 = some (.str f.name) := rfl
theorem Feat.p1 (f : Feat) : part false f.av.cells 1 1 = some (.int .i64 f.kind) := rfl
theorem Feat.p2 (f : Feat) : part false f.av.cells 2 1 = some (strs f.inputs) := rfl
theorem Feat.p3 (f : Feat) : part false f.av.cells 3 1 = some (.sl 7 f.values) := rfl
theorem Feat.whole (f : Feat) : part true f.av.cells 0 5 = some f.av := rfl
theorem Feat.size (f : Feat) : f.av.size = 5 := rfl
section
variable {P : Program} {G : Nat → Option (List AV)}
theorem valid_ok {f fn fc1 v1 fc2 v2 : FuncId} (h : Has P f (w_history_valid fn fc1 v1 fc2 v2)) (hn : ∀ s, VP P G fn [.str s] (.bool (isNameB s))) (F : Feat) (hF : F.Ok) {bi bv : Bool}
    (h1 : F.inputs.length ≤ 50 → VP P G fc1 [strs F.inputs, .fn (.func v1) [] []] (.bool bi)) (h2 : F.values.length ≤ 10 → VP P G fc2 [.sl 7 F.values, .fn (.func v2) [] []] (.bool bv)) :
    VP P G f [F.av] (.bool (isNameB F.name && decide (1 ≤ F.kind) && decide (F.kind ≤ 6) && decide (F.inputs.length ≤ 50) && decide (F.values.length ≤ 10) && !bi && !bv)) := by
  refine VP.has h ?_
  simp only [w_history_valid, SS, Nat.reduceAdd, reduceIte, Feat.one, load_put, Feat.p0]
  refine vsCall_VP (hn F.name) (by simp [PureAV.str]) ?_
  have e1 : vlen false (strs F.inputs) = some (.int .i64 F.inputs.length) := by simp [strs, vlen]
  have hpf : ∀ v : FuncId, PureAV (.fn (.func v) [] []) := fun v => PureAV.fn (by simp) (by simp)
  cases b1 : isNameB F.name
  · simp only [SS, Nat.reduceAdd, reduceIte, Bool.false_and]
    exact retQ_ret ▸ retQ_of_pure rfl (PureAV.bool _)
  by_cases b2 : 1 ≤ F.kind
  case neg =>
    simp only [SS, Nat.reduceAdd, reduceIte, Bool.false_and, Bool.and_false, load_put, Feat.p1, b2, decide_false, Bool.true_and]
    exact retQ_ret ▸ retQ_of_pure rfl (PureAV.bool _)
  by_cases b3 : F.kind ≤ 6
  case neg =>
    simp only [SS, Nat.reduceAdd, reduceIte, Bool.false_and, Bool.and_false, load_put, Feat.p1, b2, b3, decide_false, decide_true, Bool.true_and]
    exact retQ_ret ▸ retQ_of_pure rfl (PureAV.bool _)
  by_cases b4 : F.inputs.length ≤ 50
  case neg =>
    have b4' : ¬ (F.inputs.length : Int) ≤ 50 := by omega
    simp only [SS, Nat.reduceAdd, reduceIte, Bool.false_and, Bool.and_false, load_put, Feat.p1, Feat.p2, e1, b2, b3, b4, b4', decide_false, decide_true, Bool.true_and]
    exact retQ_ret ▸ retQ_of_pure rfl (PureAV.bool _)
  have b4' : (F.inputs.length : Int) ≤ 50 := by omega
  by_cases b5 : F.values.length ≤ 10
  case neg =>
    have b5' : ¬ (F.values.length : Int) ≤ 10 := by omega
    simp only [SS, Nat.reduceAdd, reduceIte, Bool.false_and, Bool.and_false, load_put, Feat.p1, Feat.p2, Feat.p3, e1, b2, b3, b4, b4', b5, b5', decide_false, decide_true, Bool.true_and]
    exact retQ_ret ▸ retQ_of_pure rfl (PureAV.bool _)
  have b5' : (F.values.length : Int) ≤ 10 := by omega
  simp only [SS, Nat.reduceAdd, reduceIte, Bool.false_and, Bool.and_false, load_put, Feat.p1, Feat.p2, Feat.p3, e1, b2, b3, b4, b4', b5, b5', decide_false, decide_true, Bool.true_and]
  refine vsCall_VP (h1 b4) (by intro x hx; simp at hx; rcases hx with rfl | rfl; exact strs_pure _; exact hpf _) ?_
  cases bi
  case true =>
    simp only [SS, Nat.reduceAdd, reduceIte, Bool.false_and]
    exact retQ_ret ▸ retQ_of_pure rfl (PureAV.bool _)
  simp only [SS, Nat.reduceAdd, reduceIte, load_put, Feat.p3]
  refine vsCall_VP (h2 b5) (by intro x hx; simp at hx; rcases hx with rfl | rfl; exact vals_pure hF.vals; exact hpf _) ?_
  simp only [SS, Nat.reduceAdd, reduceIte, Bool.true_and]
  exact retQ_ret ▸ retQ_of_pure rfl (PureAV.bool _)
end
end Go.VL
end

section
set_option linter.unusedSimpArgs false
namespace Go.VL
open Go.Lib
inductive EX where
  | mk (op : Int) (n1 : Bool) (w1 : List Nat) (n2 : Bool) (w2 : List Nat) (nm : List UInt8) (args : List EX)
theorem EX.induct {C : EX → Prop} (h : ∀ op n1 w1 n2 w2 nm args, (∀ x ∈ args, C x) → C (.mk op n1 w1 n2 w2 nm args)) : ∀ e, C e := fun e =>
  EX.rec (motive_1 := C) (motive_2 := fun l => ∀ x ∈ l, C x) (fun op n1 w1 n2 w2 nm args ih => h op n1 w1 n2 w2 nm args ih) (by simp) (fun a l ha hl => by
    intro x hx
    rcases List.mem_cons.1 hx with rfl | hx
    · exact ha
    · exact hl x hx) e
mutual
def EX.av : EX → AV
  | .mk op n1 w1 n2 w2 nm args => .agg [.int .i64 op, .bool n1, .sl 1 (us w1), .bool n2, .sl 1 (us w2), .str nm, .sl 7 (EX.avL args)]
def EX.avL : List EX → List AV
  | [] => []
  | e :: l => e.av :: EX.avL l
end
mutual
def EX.nodes : EX → Nat
  | .mk _ _ _ _ _ _ args => 1 + EX.nodesL args
def EX.nodesL : List EX → Nat
  | [] => 0
  | e :: l => e.nodes + EX.nodesL l
end
mutual
def EX.depth : EX → Nat
  | .mk _ _ _ _ _ _ args => EX.depthL args + 1
def EX.depthL : List EX → Nat
  | [] => 0
  | e :: l => max e.depth (EX.depthL l)
end
def noneB (n1 : Bool) (w1 : List Nat) (n2 : Bool) (w2 : List Nat) : Bool := w1.isEmpty && w2.isEmpty && !n1 && !n2
def arity (op : Int) : Nat := if op ≤ 2 then 0 else if op ≤ 3 then 1 else 2
mutual
def EX.formed : EX → Bool
  | .mk op n1 w1 n2 w2 nm args => decide (1 ≤ op) && decide (op ≤ 7) && decide (args.length = arity op) &&
    (if op = 1 then decB n1 w1 n2 w2 && (nm.isEmpty || isNameB nm) else if op = 2 then noneB n1 w1 n2 w2 && isNameB nm else noneB n1 w1 n2 w2 && nm.isEmpty && EX.formedL args)
def EX.formedL : List EX → Bool
  | [] => true
  | e :: l => e.formed && EX.formedL l
end
mutual
def EX.light : EX → Bool
  | .mk _ _ w1 _ w2 nm args => EX.lightL args && decide (w1.length ≤ 8) && decide (w2.length ≤ 8) && decide (nm.length ≤ 60)
def EX.lightL : List EX → Bool
  | [] => true
  | e :: l => e.light && EX.lightL l
end
mutual
def EX.Ok : EX → Prop
  | .mk op _ w1 _ w2 nm args => -9223372036854775808 ≤ op ∧ op < 9223372036854775808 ∧ Wd w1 ∧ Wd w2 ∧ w1.length ≤ 9223372036854775807 ∧ w2.length ≤ 9223372036854775807 ∧ nm.length ≤ 9223372036854775807 ∧ args.length ≤ 9223372036854775807 ∧ EX.OkL args
def EX.OkL : List EX → Prop
  | [] => True
  | e :: l => e.Ok ∧ EX.OkL l
end
theorem EX.avL_map : ∀ l, EX.avL l = l.map EX.av
  | [] => rfl
  | e :: l => by rw [EX.avL, EX.avL_map l]; rfl
theorem EX.formedL_all : ∀ l, EX.formedL l = l.all EX.formed
  | [] => rfl
  | e :: l => by rw [EX.formedL, EX.formedL_all l]; rfl
theorem EX.lightL_all : ∀ l, EX.lightL l = l.all EX.light
  | [] => rfl
  | e :: l => by rw [EX.lightL, EX.lightL_all l]; rfl
theorem EX.okL_iff : ∀ {l}, EX.OkL l ↔ ∀ x ∈ l, EX.Ok x
  | [] => by simp [EX.OkL]
  | e :: l => by rw [EX.OkL, EX.okL_iff (l := l)]; simp
theorem EX.nodes_pos (e : EX) : 1 ≤ e.nodes := by cases e; rw [EX.nodes]; omega
theorem EX.size (e : EX) : e.av.size = 7 := by cases e; rw [EX.av]; rfl
theorem EX.cells_pure : ∀ e : EX, ∀ c ∈ e.av.cells, PureAV c := EX.induct fun op n1 w1 n2 w2 nm args ih => by
  rw [EX.av]
  intro c hc
  simp [AV.cells] at hc
  rcases hc with rfl | rfl | rfl | rfl | rfl | rfl | rfl
  · exact PureAV.int _ _
  · exact PureAV.bool _
  · exact us_pure _
  · exact PureAV.bool _
  · exact us_pure _
  · exact PureAV.str _
  · refine PureAV.sl ?_
    rw [EX.avL_map]
    intro c hc
    simp only [flat, List.mem_flatMap, List.mem_map] at hc
    obtain ⟨_, ⟨x, hx, rfl⟩, hcx⟩ := hc
    exact ih x hx c hcx
theorem EX.pure (e : EX) : PureAV e.av := by
  have h := EX.cells_pure e
  cases e with
  | mk op n1 w1 n2 w2 nm args => rw [EX.av] at h ⊢; exact PureAV.agg h
theorem EX.args_pure (l : List EX) : PureAV (.sl 7 (EX.avL l)) := by
  have := EX.cells_pure (.mk 0 false [] false [] [] l)
  rw [EX.av] at this
  exact this _ (by simp [AV.cells])
theorem EX.like (e : EX) : ExprLike e.av := by
  have h := EX.cells_pure e
  cases e with
  | mk op n1 w1 n2 w2 nm args =>
    rw [EX.av] at h ⊢
    exact ⟨_, rfl, rfl, fun c hc => ⟨h c hc, by simp at hc; rcases hc with rfl | rfl | rfl | rfl | rfl | rfl | rfl <;> rfl⟩⟩
theorem EX.one (e : EX) : (e.av.cells.all AV.one = true) = True := by cases e; rw [EX.av]; simp [AV.cells, AV.one]
theorem EX.all (e : EX) : VL.part true e.av.cells 0 7 = some e.av := e.like.part
end Go.VL
end

section
set_option linter.unusedSimpArgs false
namespace Go.VL
theorem us_inj : ∀ {a b : List Nat}, us a = us b → a = b
  | [], [], _ => rfl
  | [], b :: bs, h => by simp [us] at h
  | a :: al, [], h => by simp [us] at h
  | a :: al, b :: bs, h => by
    simp only [us, List.map_cons, List.cons.injEq, AV.int.injEq, true_and] at h
    rw [us_inj (a := al) (b := bs) h.2, Int.ofNat.inj h.1]
theorem map_inj_of {α β : Type} {f : α → β} : ∀ {l l' : List α}, (∀ x ∈ l, ∀ y, f x = f y → x = y) → l.map f = l'.map f → l = l'
  | [], [], _, _ => rfl
  | [], b :: bs, _, h => by simp at h
  | a :: al, [], _, h => by simp at h
  | a :: al, b :: bs, hi, h => by
    simp only [List.map_cons, List.cons.injEq] at h
    rw [hi a (by simp) b h.1, map_inj_of (fun x hx => hi x (by simp [hx])) h.2]
theorem EX.av_inj : ∀ e e' : EX, e.av = e'.av → e = e' := EX.induct fun op n1 w1 n2 w2 nm args ih => fun e' h => by
  cases e' with
  | mk op' n1' w1' n2' w2' nm' args' =>
    rw [EX.av, EX.av] at h
    simp only [AV.agg.injEq, List.cons.injEq, AV.int.injEq, AV.bool.injEq, AV.sl.injEq, AV.str.injEq, true_and, and_true] at h
    obtain ⟨h1, h2, h3, h4, h5, h6, h7⟩ := h
    rw [EX.avL_map, EX.avL_map] at h7
    rw [h1, h2, us_inj h3, h4, us_inj h5, h6, map_inj_of ih h7]
noncomputable def badAV (v : AV) : Bool := @decide (∃ e : EX, e.av = v ∧ e.formed = false) (Classical.propDecidable _)
theorem badAV_av (e : EX) : badAV e.av = !e.formed := by
  unfold badAV
  cases h : e.formed
  · exact @decide_eq_true _ (Classical.propDecidable _) ⟨e, rfl, h⟩
  · refine @decide_eq_false _ (Classical.propDecidable _) ?_
    rintro ⟨e', h1, h2⟩
    rw [EX.av_inj _ _ h1] at h2
    rw [h] at h2; cases h2
section
variable (op : Int) (n1 : Bool) (w1 : List Nat) (n2 : Bool) (w2 : List Nat) (nm : List UInt8) (args : List EX)
theorem EX.q0 : part false (EX.mk op n1 w1 n2 w2 nm args).av.cells 0 1 = some (.int .i64 op) := by rw [EX.av]; rfl
theorem EX.q1 : part true (EX.mk op n1 w1 n2 w2 nm args).av.cells 1 4 = some (RR n1 w1 n2 w2) := by rw [EX.av]; rfl
theorem EX.q5 : part false (EX.mk op n1 w1 n2 w2 nm args).av.cells 5 1 = some (.str nm) := by rw [EX.av]; rfl
theorem EX.q6 : part false (EX.mk op n1 w1 n2 w2 nm args).av.cells 6 1 = some (.sl 7 (EX.avL args)) := by rw [EX.av]; rfl
theorem EX.l6 : vlen false (.sl 7 (EX.avL args)) = some (.int .i64 (args.length : Int)) := by rw [EX.avL_map]; simp [vlen]
theorem RR_q0 : part false (RR n1 w1 n2 w2).cells 0 1 = some (.bool n1) := rfl
theorem RR_q1 : part false (RR n1 w1 n2 w2).cells 1 1 = some (.sl 1 (us w1)) := rfl
theorem RR_q2 : part false (RR n1 w1 n2 w2).cells 2 1 = some (.bool n2) := rfl
theorem RR_q3 : part false (RR n1 w1 n2 w2).cells 3 1 = some (.sl 1 (us w2)) := rfl
end
section
variable {P : Program} {G : Nat → Option (List AV)}
theorem none_ok {f : FuncId} (h : Has P f w_formula_none) (n1 : Bool) (w1 : List Nat) (n2 : Bool) (w2 : List Nat) : VP P G f [RR n1 w1 n2 w2] (.bool (noneB n1 w1 n2 w2)) := by
  refine VP.has h ?_
  have hlen : ∀ ws, vlen false (.sl 1 (us ws)) = some (.int .i64 ws.length) := fun ws => by simp [vlen, us_len]
  have d1 : decide ((w1.length : Int) = 0) = w1.isEmpty := by cases w1 <;> simp <;> omega
  have d2 : decide ((w2.length : Int) = 0) = w2.isEmpty := by cases w2 <;> simp <;> omega
  unfold noneB
  cases b1 : w1.isEmpty <;> cases b2 : w2.isEmpty <;> cases n1 <;> cases n2 <;>
  · rw [b1] at d1; rw [b2] at d2
    simp only [w_formula_none, SS, Nat.reduceAdd, reduceIte, Nat.reduceEqDiff, RR_one, load_put, RR_q0, RR_q1, RR_q2, RR_q3, hlen, d1, d2, Bool.true_and, Bool.false_and, Bool.not_true, Bool.not_false, Bool.and_false, Bool.and_true]
    exact retQ_ret ▸ retQ_of_pure rfl (PureAV.bool _)
theorem formed1_ok {f ff : FuncId} (h : Has P f (w_formula_formed_1 ff)) (e : EX) (hf : VP P G ff [e.av] (.bool e.formed)) : VP P G f [e.av] (.bool (!e.formed)) := by
  refine VP.has h ?_
  simp only [w_formula_formed_1, SS, Nat.reduceAdd, reduceIte, Nat.reduceEqDiff, EX.one, load_put, EX.all]
  refine vsCall_VP hf (by simp [EX.pure]) ?_
  simp only [SS, Nat.reduceAdd, reduceIte, Nat.reduceEqDiff]
  exact retQ_ret ▸ retQ_of_pure rfl (PureAV.bool _)
def operandsA : List AV := [.int .i64 0, .int .i64 0, .int .i64 0, .int .i64 1, .int .i64 2, .int .i64 2, .int .i64 2, .int .i64 2]
theorem formed_lo {f fd fn fnone fc f1 : FuncId} {g0 : Nat} (h : Has P f (w_formula_formed fd fn fnone fc f1 g0)) (op : Int) (n1 : Bool) (w1 : List Nat) (n2 : Bool) (w2 : List Nat) (nm : List UInt8) (args : List EX) (o1 : op < 1) :
    VP P G f [(EX.mk op n1 w1 n2 w2 nm args).av] (.bool false) := by
  refine VP.has h ?_
  have e1 : decide (op < 1) = true := dec_true o1
  simp only [w_formula_formed, SS, DD, Nat.reduceAdd, reduceIte, Nat.reduceEqDiff, EX.one, load_put, EX.q0, EX.q1, EX.q5, EX.q6, EX.l6, e1]
  refine ⟨by simp [allApart, apart], ?_⟩
  exact retQ_ret ▸ retQ_of_pure rfl (PureAV.bool _)
theorem formed_hi {f fd fn fnone fc f1 : FuncId} {g0 : Nat} (h : Has P f (w_formula_formed fd fn fnone fc f1 g0)) (op : Int) (n1 : Bool) (w1 : List Nat) (n2 : Bool) (w2 : List Nat) (nm : List UInt8) (args : List EX) (o7 : 7 < op) :
    VP P G f [(EX.mk op n1 w1 n2 w2 nm args).av] (.bool false) := by
  refine VP.has h ?_
  have e1 : decide (op < 1) = false := dec_false (by omega)
  have e2 : decide (7 < op) = true := dec_true o7
  simp only [w_formula_formed, SS, DD, Nat.reduceAdd, reduceIte, Nat.reduceEqDiff, EX.one, load_put, EX.q0, EX.q1, EX.q5, EX.q6, EX.l6, e1, e2]
  refine ⟨by simp [allApart, apart], ?_⟩
  exact retQ_ret ▸ retQ_of_pure rfl (PureAV.bool _)
theorem ev_g {t : List AV} {g : Nat} {cs : List AV} (h : G g = some cs) : VArg.ev G t (.g g) = .ep cs 0 := by simp [VArg.ev, h]
theorem EX.avLlen (args : List EX) : (EX.avL args).length = args.length := by rw [EX.avL_map, List.length_map]
theorem op_a1 : viaddrA 8 1 (.ep operandsA 0) (.int .i64 1) = some (.ep operandsA 1) := by simp [viaddrA]
theorem op_l1 (σ : Store) : vload σ false 1 (.ep operandsA 1) = some { val := .int .i64 0 } := rfl
theorem op_a2 : viaddrA 8 1 (.ep operandsA 0) (.int .i64 2) = some (.ep operandsA 2) := by simp [viaddrA]
theorem op_l2 (σ : Store) : vload σ false 1 (.ep operandsA 2) = some { val := .int .i64 0 } := rfl
theorem op_a3 : viaddrA 8 1 (.ep operandsA 0) (.int .i64 3) = some (.ep operandsA 3) := by simp [viaddrA]
theorem op_l3 (σ : Store) : vload σ false 1 (.ep operandsA 3) = some { val := .int .i64 1 } := rfl
theorem op_a4 : viaddrA 8 1 (.ep operandsA 0) (.int .i64 4) = some (.ep operandsA 4) := by simp [viaddrA]
theorem op_l4 (σ : Store) : vload σ false 1 (.ep operandsA 4) = some { val := .int .i64 2 } := rfl
theorem op_a5 : viaddrA 8 1 (.ep operandsA 0) (.int .i64 5) = some (.ep operandsA 5) := by simp [viaddrA]
theorem op_l5 (σ : Store) : vload σ false 1 (.ep operandsA 5) = some { val := .int .i64 2 } := rfl
theorem op_a6 : viaddrA 8 1 (.ep operandsA 0) (.int .i64 6) = some (.ep operandsA 6) := by simp [viaddrA]
theorem op_l6 (σ : Store) : vload σ false 1 (.ep operandsA 6) = some { val := .int .i64 2 } := rfl
theorem op_a7 : viaddrA 8 1 (.ep operandsA 0) (.int .i64 7) = some (.ep operandsA 7) := by simp [viaddrA]
theorem op_l7 (σ : Store) : vload σ false 1 (.ep operandsA 7) = some { val := .int .i64 2 } := rfl
theorem tupX_0 {α : Type} {a b : α} : [a, b][0]? = some a := rfl
theorem tupX_1 {α : Type} {a b : α} : [a, b][1]? = some b := rfl
theorem str_nil (nm : List UInt8) : (nm == ([] : List UInt8)) = nm.isEmpty := by cases nm <;> rfl
theorem fn_pure0 (v : FuncId) : PureAV (.fn (.func v) [] []) := PureAV.fn (by simp) (by simp)
theorem formed_1 {f fd fn fnone fc f1 : FuncId} {g0 : Nat} (h : Has P f (w_formula_formed fd fn fnone fc f1 g0)) (hG : G g0 = some operandsA)
    (n1 : Bool) (w1 : List Nat) (n2 : Bool) (w2 : List Nat) (nm : List UInt8) (args : List EX)
    (hd : ∃ s, VP P G fd [RR n1 w1 n2 w2] (.tup [.str s, .bool (decB n1 w1 n2 w2)])) (hn : VP P G fn [.str nm] (.bool (isNameB nm))) (hno : VP P G fnone [RR n1 w1 n2 w2] (.bool (noneB n1 w1 n2 w2)))
    (hc : VP P G fc [.sl 7 (EX.avL args), .fn (.func f1) [] []] (.bool (!EX.formedL args))) :
    VP P G f [(EX.mk 1 n1 w1 n2 w2 nm args).av] (.bool (decide (args.length = 0) && (decB n1 w1 n2 w2 && (or nm.isEmpty (isNameB nm))))) := by
  have a1 : decide ((1 : Int) < 1) = false := rfl
  have a2 : decide ((7 : Int) < 1) = false := rfl
  have a3 : decide ((1 : Int) = 1) = decide (1 = 1) := rfl
  have a4 : decide ((1 : Int) = 2) = decide (1 = 2) := rfl
  obtain ⟨s, hd⟩ := hd
  by_cases hl : args.length = 0
  case neg =>
    have d2 : decide ((args.length : Int) ≠ 0) = true := dec_true (by omega)
    have d3 : decide (args.length = 0) = false := dec_false hl
    refine VP.has h ?_
    simp only [w_formula_formed, SS, DD, Nat.reduceAdd, reduceIte, Nat.reduceEqDiff, EX.one, load_put, EX.q0, EX.q1, EX.q5, EX.q6, EX.l6, a1, a2, a3, a4, ev_g hG, EX.avLlen, op_a1, op_l1, d2, decide_true, decide_false, d3, Bool.false_and]
    refine ⟨by simp [allApart, apart], ?_⟩
    exact retQ_ret ▸ retQ_of_pure rfl (PureAV.bool _)
  have d2 : decide ((args.length : Int) ≠ 0) = false := dec_false (by omega)
  have d3 : decide (args.length = 0) = true := dec_true hl
  rw [d3]
  cases b1 : decB n1 w1 n2 w2 <;> cases b2 : nm.isEmpty <;> cases b3 : isNameB nm <;>
  · rw [b1] at hd
    rw [b3] at hn
    refine VP.has h ?_
    simp only [w_formula_formed, SS, DD, Nat.reduceAdd, reduceIte, Nat.reduceEqDiff, EX.one, load_put, EX.q0, EX.q1, EX.q5, EX.q6, EX.l6, a1, a2, a3, a4, ev_g hG, EX.avLlen, op_a1, op_l1, d2, decide_true, decide_false, Bool.true_and, Bool.false_and, Bool.and_true, Bool.and_false, Bool.or_true, Bool.or_false, Bool.true_or, Bool.false_or]
    refine ⟨by simp [allApart, apart], ?_⟩
    try simp only [SS, DD, Nat.reduceAdd, reduceIte, Nat.reduceEqDiff, EX.one, load_put, EX.q0, EX.q1, EX.q5, EX.q6, EX.l6, a1, a2, a3, a4, ev_g hG, EX.avLlen, op_a1, op_l1, d2, decide_true, decide_false, Bool.true_and, Bool.false_and]
    first
    | refine vsCall_VP hd (by simp [RR_pure]) ?_
    | refine vsCall_VP hno (by simp [RR_pure]) ?_
    simp only [SS, DD, Nat.reduceAdd, reduceIte, Nat.reduceEqDiff, EX.one, load_put, EX.q0, EX.q1, EX.q5, EX.q6, EX.l6, a1, a2, a3, a4, ev_g hG, EX.avLlen, op_a1, op_l1, d2, decide_true, decide_false, tupX_0, tupX_1, str_nil, b2, Bool.true_and, Bool.false_and]
    first
    | exact retQ_ret ▸ retQ_of_pure rfl (PureAV.bool _)
    | (refine vsCall_VP hn (by simp [PureAV.str]) ?_
       simp only [SS, DD, Nat.reduceAdd, reduceIte, Nat.reduceEqDiff]
       exact retQ_ret ▸ retQ_of_pure rfl (PureAV.bool _))
    | (refine vsCall_VP hc (by intro x hx; simp at hx; rcases hx with rfl | rfl; exact EX.args_pure _; exact fn_pure0 _) ?_
       simp only [SS, DD, Nat.reduceAdd, reduceIte, Nat.reduceEqDiff, Bool.not_not]
       exact retQ_ret ▸ retQ_of_pure rfl (PureAV.bool _))
theorem formed_2 {f fd fn fnone fc f1 : FuncId} {g0 : Nat} (h : Has P f (w_formula_formed fd fn fnone fc f1 g0)) (hG : G g0 = some operandsA)
    (n1 : Bool) (w1 : List Nat) (n2 : Bool) (w2 : List Nat) (nm : List UInt8) (args : List EX)
    (hd : ∃ s, VP P G fd [RR n1 w1 n2 w2] (.tup [.str s, .bool (decB n1 w1 n2 w2)])) (hn : VP P G fn [.str nm] (.bool (isNameB nm))) (hno : VP P G fnone [RR n1 w1 n2 w2] (.bool (noneB n1 w1 n2 w2)))
    (hc : VP P G fc [.sl 7 (EX.avL args), .fn (.func f1) [] []] (.bool (!EX.formedL args))) :
    VP P G f [(EX.mk 2 n1 w1 n2 w2 nm args).av] (.bool (decide (args.length = 0) && (noneB n1 w1 n2 w2 && isNameB nm))) := by
  have a1 : decide ((2 : Int) < 1) = false := rfl
  have a2 : decide ((7 : Int) < 2) = false := rfl
  have a3 : decide ((2 : Int) = 1) = decide (2 = 1) := rfl
  have a4 : decide ((2 : Int) = 2) = decide (2 = 2) := rfl
  obtain ⟨s, hd⟩ := hd
  by_cases hl : args.length = 0
  case neg =>
    have d2 : decide ((args.length : Int) ≠ 0) = true := dec_true (by omega)
    have d3 : decide (args.length = 0) = false := dec_false hl
    refine VP.has h ?_
    simp only [w_formula_formed, SS, DD, Nat.reduceAdd, reduceIte, Nat.reduceEqDiff, EX.one, load_put, EX.q0, EX.q1, EX.q5, EX.q6, EX.l6, a1, a2, a3, a4, ev_g hG, EX.avLlen, op_a2, op_l2, d2, decide_true, decide_false, d3, Bool.false_and]
    refine ⟨by simp [allApart, apart], ?_⟩
    exact retQ_ret ▸ retQ_of_pure rfl (PureAV.bool _)
  have d2 : decide ((args.length : Int) ≠ 0) = false := dec_false (by omega)
  have d3 : decide (args.length = 0) = true := dec_true hl
  rw [d3]
  cases b3 : isNameB nm <;> cases b4 : noneB n1 w1 n2 w2 <;>
  · rw [b3] at hn
    rw [b4] at hno
    refine VP.has h ?_
    simp only [w_formula_formed, SS, DD, Nat.reduceAdd, reduceIte, Nat.reduceEqDiff, EX.one, load_put, EX.q0, EX.q1, EX.q5, EX.q6, EX.l6, a1, a2, a3, a4, ev_g hG, EX.avLlen, op_a2, op_l2, d2, decide_true, decide_false, Bool.true_and, Bool.false_and, Bool.and_true, Bool.and_false, Bool.or_true, Bool.or_false, Bool.true_or, Bool.false_or]
    refine ⟨by simp [allApart, apart], ?_⟩
    try simp only [SS, DD, Nat.reduceAdd, reduceIte, Nat.reduceEqDiff, EX.one, load_put, EX.q0, EX.q1, EX.q5, EX.q6, EX.l6, a1, a2, a3, a4, ev_g hG, EX.avLlen, op_a2, op_l2, d2, decide_true, decide_false, Bool.true_and, Bool.false_and]
    first
    | refine vsCall_VP hd (by simp [RR_pure]) ?_
    | refine vsCall_VP hno (by simp [RR_pure]) ?_
    simp only [SS, DD, Nat.reduceAdd, reduceIte, Nat.reduceEqDiff, EX.one, load_put, EX.q0, EX.q1, EX.q5, EX.q6, EX.l6, a1, a2, a3, a4, ev_g hG, EX.avLlen, op_a2, op_l2, d2, decide_true, decide_false, tupX_0, tupX_1, str_nil, Bool.true_and, Bool.false_and]
    first
    | exact retQ_ret ▸ retQ_of_pure rfl (PureAV.bool _)
    | (refine vsCall_VP hn (by simp [PureAV.str]) ?_
       simp only [SS, DD, Nat.reduceAdd, reduceIte, Nat.reduceEqDiff]
       exact retQ_ret ▸ retQ_of_pure rfl (PureAV.bool _))
    | (refine vsCall_VP hc (by intro x hx; simp at hx; rcases hx with rfl | rfl; exact EX.args_pure _; exact fn_pure0 _) ?_
       simp only [SS, DD, Nat.reduceAdd, reduceIte, Nat.reduceEqDiff, Bool.not_not]
       exact retQ_ret ▸ retQ_of_pure rfl (PureAV.bool _))
theorem formed_3 {f fd fn fnone fc f1 : FuncId} {g0 : Nat} (h : Has P f (w_formula_formed fd fn fnone fc f1 g0)) (hG : G g0 = some operandsA)
    (n1 : Bool) (w1 : List Nat) (n2 : Bool) (w2 : List Nat) (nm : List UInt8) (args : List EX)
    (hd : ∃ s, VP P G fd [RR n1 w1 n2 w2] (.tup [.str s, .bool (decB n1 w1 n2 w2)])) (hn : VP P G fn [.str nm] (.bool (isNameB nm))) (hno : VP P G fnone [RR n1 w1 n2 w2] (.bool (noneB n1 w1 n2 w2)))
    (hc : VP P G fc [.sl 7 (EX.avL args), .fn (.func f1) [] []] (.bool (!EX.formedL args))) :
    VP P G f [(EX.mk 3 n1 w1 n2 w2 nm args).av] (.bool (decide (args.length = 1) && (noneB n1 w1 n2 w2 && nm.isEmpty && EX.formedL args))) := by
  have a1 : decide ((3 : Int) < 1) = false := rfl
  have a2 : decide ((7 : Int) < 3) = false := rfl
  have a3 : decide ((3 : Int) = 1) = decide (3 = 1) := rfl
  have a4 : decide ((3 : Int) = 2) = decide (3 = 2) := rfl
  obtain ⟨s, hd⟩ := hd
  by_cases hl : args.length = 1
  case neg =>
    have d2 : decide ((args.length : Int) ≠ 1) = true := dec_true (by omega)
    have d3 : decide (args.length = 1) = false := dec_false hl
    refine VP.has h ?_
    simp only [w_formula_formed, SS, DD, Nat.reduceAdd, reduceIte, Nat.reduceEqDiff, EX.one, load_put, EX.q0, EX.q1, EX.q5, EX.q6, EX.l6, a1, a2, a3, a4, ev_g hG, EX.avLlen, op_a3, op_l3, d2, decide_true, decide_false, d3, Bool.false_and]
    refine ⟨by simp [allApart, apart], ?_⟩
    exact retQ_ret ▸ retQ_of_pure rfl (PureAV.bool _)
  have d2 : decide ((args.length : Int) ≠ 1) = false := dec_false (by omega)
  have d3 : decide (args.length = 1) = true := dec_true hl
  rw [d3]
  cases b2 : nm.isEmpty <;> cases b4 : noneB n1 w1 n2 w2 <;>
  · rw [b4] at hno
    refine VP.has h ?_
    simp only [w_formula_formed, SS, DD, Nat.reduceAdd, reduceIte, Nat.reduceEqDiff, EX.one, load_put, EX.q0, EX.q1, EX.q5, EX.q6, EX.l6, a1, a2, a3, a4, ev_g hG, EX.avLlen, op_a3, op_l3, d2, decide_true, decide_false, Bool.true_and, Bool.false_and, Bool.and_true, Bool.and_false, Bool.or_true, Bool.or_false, Bool.true_or, Bool.false_or]
    refine ⟨by simp [allApart, apart], ?_⟩
    try simp only [SS, DD, Nat.reduceAdd, reduceIte, Nat.reduceEqDiff, EX.one, load_put, EX.q0, EX.q1, EX.q5, EX.q6, EX.l6, a1, a2, a3, a4, ev_g hG, EX.avLlen, op_a3, op_l3, d2, decide_true, decide_false, Bool.true_and, Bool.false_and]
    first
    | refine vsCall_VP hd (by simp [RR_pure]) ?_
    | refine vsCall_VP hno (by simp [RR_pure]) ?_
    simp only [SS, DD, Nat.reduceAdd, reduceIte, Nat.reduceEqDiff, EX.one, load_put, EX.q0, EX.q1, EX.q5, EX.q6, EX.l6, a1, a2, a3, a4, ev_g hG, EX.avLlen, op_a3, op_l3, d2, decide_true, decide_false, tupX_0, tupX_1, str_nil, b2, Bool.true_and, Bool.false_and]
    first
    | exact retQ_ret ▸ retQ_of_pure rfl (PureAV.bool _)
    | (refine vsCall_VP hn (by simp [PureAV.str]) ?_
       simp only [SS, DD, Nat.reduceAdd, reduceIte, Nat.reduceEqDiff]
       exact retQ_ret ▸ retQ_of_pure rfl (PureAV.bool _))
    | (refine vsCall_VP hc (by intro x hx; simp at hx; rcases hx with rfl | rfl; exact EX.args_pure _; exact fn_pure0 _) ?_
       simp only [SS, DD, Nat.reduceAdd, reduceIte, Nat.reduceEqDiff, Bool.not_not]
       exact retQ_ret ▸ retQ_of_pure rfl (PureAV.bool _))
theorem formed_4 {f fd fn fnone fc f1 : FuncId} {g0 : Nat} (h : Has P f (w_formula_formed fd fn fnone fc f1 g0)) (hG : G g0 = some operandsA)
    (n1 : Bool) (w1 : List Nat) (n2 : Bool) (w2 : List Nat) (nm : List UInt8) (args : List EX)
    (hd : ∃ s, VP P G fd [RR n1 w1 n2 w2] (.tup [.str s, .bool (decB n1 w1 n2 w2)])) (hn : VP P G fn [.str nm] (.bool (isNameB nm))) (hno : VP P G fnone [RR n1 w1 n2 w2] (.bool (noneB n1 w1 n2 w2)))
    (hc : VP P G fc [.sl 7 (EX.avL args), .fn (.func f1) [] []] (.bool (!EX.formedL args))) :
    VP P G f [(EX.mk 4 n1 w1 n2 w2 nm args).av] (.bool (decide (args.length = 2) && (noneB n1 w1 n2 w2 && nm.isEmpty && EX.formedL args))) := by
  have a1 : decide ((4 : Int) < 1) = false := rfl
  have a2 : decide ((7 : Int) < 4) = false := rfl
  have a3 : decide ((4 : Int) = 1) = decide (4 = 1) := rfl
  have a4 : decide ((4 : Int) = 2) = decide (4 = 2) := rfl
  obtain ⟨s, hd⟩ := hd
  by_cases hl : args.length = 2
  case neg =>
    have d2 : decide ((args.length : Int) ≠ 2) = true := dec_true (by omega)
    have d3 : decide (args.length = 2) = false := dec_false hl
    refine VP.has h ?_
    simp only [w_formula_formed, SS, DD, Nat.reduceAdd, reduceIte, Nat.reduceEqDiff, EX.one, load_put, EX.q0, EX.q1, EX.q5, EX.q6, EX.l6, a1, a2, a3, a4, ev_g hG, EX.avLlen, op_a4, op_l4, d2, decide_true, decide_false, d3, Bool.false_and]
    refine ⟨by simp [allApart, apart], ?_⟩
    exact retQ_ret ▸ retQ_of_pure rfl (PureAV.bool _)
  have d2 : decide ((args.length : Int) ≠ 2) = false := dec_false (by omega)
  have d3 : decide (args.length = 2) = true := dec_true hl
  rw [d3]
  cases b2 : nm.isEmpty <;> cases b4 : noneB n1 w1 n2 w2 <;>
  · rw [b4] at hno
    refine VP.has h ?_
    simp only [w_formula_formed, SS, DD, Nat.reduceAdd, reduceIte, Nat.reduceEqDiff, EX.one, load_put, EX.q0, EX.q1, EX.q5, EX.q6, EX.l6, a1, a2, a3, a4, ev_g hG, EX.avLlen, op_a4, op_l4, d2, decide_true, decide_false, Bool.true_and, Bool.false_and, Bool.and_true, Bool.and_false, Bool.or_true, Bool.or_false, Bool.true_or, Bool.false_or]
    refine ⟨by simp [allApart, apart], ?_⟩
    try simp only [SS, DD, Nat.reduceAdd, reduceIte, Nat.reduceEqDiff, EX.one, load_put, EX.q0, EX.q1, EX.q5, EX.q6, EX.l6, a1, a2, a3, a4, ev_g hG, EX.avLlen, op_a4, op_l4, d2, decide_true, decide_false, Bool.true_and, Bool.false_and]
    first
    | refine vsCall_VP hd (by simp [RR_pure]) ?_
    | refine vsCall_VP hno (by simp [RR_pure]) ?_
    simp only [SS, DD, Nat.reduceAdd, reduceIte, Nat.reduceEqDiff, EX.one, load_put, EX.q0, EX.q1, EX.q5, EX.q6, EX.l6, a1, a2, a3, a4, ev_g hG, EX.avLlen, op_a4, op_l4, d2, decide_true, decide_false, tupX_0, tupX_1, str_nil, b2, Bool.true_and, Bool.false_and]
    first
    | exact retQ_ret ▸ retQ_of_pure rfl (PureAV.bool _)
    | (refine vsCall_VP hn (by simp [PureAV.str]) ?_
       simp only [SS, DD, Nat.reduceAdd, reduceIte, Nat.reduceEqDiff]
       exact retQ_ret ▸ retQ_of_pure rfl (PureAV.bool _))
    | (refine vsCall_VP hc (by intro x hx; simp at hx; rcases hx with rfl | rfl; exact EX.args_pure _; exact fn_pure0 _) ?_
       simp only [SS, DD, Nat.reduceAdd, reduceIte, Nat.reduceEqDiff, Bool.not_not]
       exact retQ_ret ▸ retQ_of_pure rfl (PureAV.bool _))
theorem formed_5 {f fd fn fnone fc f1 : FuncId} {g0 : Nat} (h : Has P f (w_formula_formed fd fn fnone fc f1 g0)) (hG : G g0 = some operandsA)
    (n1 : Bool) (w1 : List Nat) (n2 : Bool) (w2 : List Nat) (nm : List UInt8) (args : List EX)
    (hd : ∃ s, VP P G fd [RR n1 w1 n2 w2] (.tup [.str s, .bool (decB n1 w1 n2 w2)])) (hn : VP P G fn [.str nm] (.bool (isNameB nm))) (hno : VP P G fnone [RR n1 w1 n2 w2] (.bool (noneB n1 w1 n2 w2)))
    (hc : VP P G fc [.sl 7 (EX.avL args), .fn (.func f1) [] []] (.bool (!EX.formedL args))) :
    VP P G f [(EX.mk 5 n1 w1 n2 w2 nm args).av] (.bool (decide (args.length = 2) && (noneB n1 w1 n2 w2 && nm.isEmpty && EX.formedL args))) := by
  have a1 : decide ((5 : Int) < 1) = false := rfl
  have a2 : decide ((7 : Int) < 5) = false := rfl
  have a3 : decide ((5 : Int) = 1) = decide (5 = 1) := rfl
  have a4 : decide ((5 : Int) = 2) = decide (5 = 2) := rfl
  obtain ⟨s, hd⟩ := hd
  by_cases hl : args.length = 2
  case neg =>
    have d2 : decide ((args.length : Int) ≠ 2) = true := dec_true (by omega)
    have d3 : decide (args.length = 2) = false := dec_false hl
    refine VP.has h ?_
    simp only [w_formula_formed, SS, DD, Nat.reduceAdd, reduceIte, Nat.reduceEqDiff, EX.one, load_put, EX.q0, EX.q1, EX.q5, EX.q6, EX.l6, a1, a2, a3, a4, ev_g hG, EX.avLlen, op_a5, op_l5, d2, decide_true, decide_false, d3, Bool.false_and]
    refine ⟨by simp [allApart, apart], ?_⟩
    exact retQ_ret ▸ retQ_of_pure rfl (PureAV.bool _)
  have d2 : decide ((args.length : Int) ≠ 2) = false := dec_false (by omega)
  have d3 : decide (args.length = 2) = true := dec_true hl
  rw [d3]
  cases b2 : nm.isEmpty <;> cases b4 : noneB n1 w1 n2 w2 <;>
  · rw [b4] at hno
    refine VP.has h ?_
    simp only [w_formula_formed, SS, DD, Nat.reduceAdd, reduceIte, Nat.reduceEqDiff, EX.one, load_put, EX.q0, EX.q1, EX.q5, EX.q6, EX.l6, a1, a2, a3, a4, ev_g hG, EX.avLlen, op_a5, op_l5, d2, decide_true, decide_false, Bool.true_and, Bool.false_and, Bool.and_true, Bool.and_false, Bool.or_true, Bool.or_false, Bool.true_or, Bool.false_or]
    refine ⟨by simp [allApart, apart], ?_⟩
    try simp only [SS, DD, Nat.reduceAdd, reduceIte, Nat.reduceEqDiff, EX.one, load_put, EX.q0, EX.q1, EX.q5, EX.q6, EX.l6, a1, a2, a3, a4, ev_g hG, EX.avLlen, op_a5, op_l5, d2, decide_true, decide_false, Bool.true_and, Bool.false_and]
    first
    | refine vsCall_VP hd (by simp [RR_pure]) ?_
    | refine vsCall_VP hno (by simp [RR_pure]) ?_
    simp only [SS, DD, Nat.reduceAdd, reduceIte, Nat.reduceEqDiff, EX.one, load_put, EX.q0, EX.q1, EX.q5, EX.q6, EX.l6, a1, a2, a3, a4, ev_g hG, EX.avLlen, op_a5, op_l5, d2, decide_true, decide_false, tupX_0, tupX_1, str_nil, b2, Bool.true_and, Bool.false_and]
    first
    | exact retQ_ret ▸ retQ_of_pure rfl (PureAV.bool _)
    | (refine vsCall_VP hn (by simp [PureAV.str]) ?_
       simp only [SS, DD, Nat.reduceAdd, reduceIte, Nat.reduceEqDiff]
       exact retQ_ret ▸ retQ_of_pure rfl (PureAV.bool _))
    | (refine vsCall_VP hc (by intro x hx; simp at hx; rcases hx with rfl | rfl; exact EX.args_pure _; exact fn_pure0 _) ?_
       simp only [SS, DD, Nat.reduceAdd, reduceIte, Nat.reduceEqDiff, Bool.not_not]
       exact retQ_ret ▸ retQ_of_pure rfl (PureAV.bool _))
theorem formed_6 {f fd fn fnone fc f1 : FuncId} {g0 : Nat} (h : Has P f (w_formula_formed fd fn fnone fc f1 g0)) (hG : G g0 = some operandsA)
    (n1 : Bool) (w1 : List Nat) (n2 : Bool) (w2 : List Nat) (nm : List UInt8) (args : List EX)
    (hd : ∃ s, VP P G fd [RR n1 w1 n2 w2] (.tup [.str s, .bool (decB n1 w1 n2 w2)])) (hn : VP P G fn [.str nm] (.bool (isNameB nm))) (hno : VP P G fnone [RR n1 w1 n2 w2] (.bool (noneB n1 w1 n2 w2)))
    (hc : VP P G fc [.sl 7 (EX.avL args), .fn (.func f1) [] []] (.bool (!EX.formedL args))) :
    VP P G f [(EX.mk 6 n1 w1 n2 w2 nm args).av] (.bool (decide (args.length = 2) && (noneB n1 w1 n2 w2 && nm.isEmpty && EX.formedL args))) := by
  have a1 : decide ((6 : Int) < 1) = false := rfl
  have a2 : decide ((7 : Int) < 6) = false := rfl
  have a3 : decide ((6 : Int) = 1) = decide (6 = 1) := rfl
  have a4 : decide ((6 : Int) = 2) = decide (6 = 2) := rfl
  obtain ⟨s, hd⟩ := hd
  by_cases hl : args.length = 2
  case neg =>
    have d2 : decide ((args.length : Int) ≠ 2) = true := dec_true (by omega)
    have d3 : decide (args.length = 2) = false := dec_false hl
    refine VP.has h ?_
    simp only [w_formula_formed, SS, DD, Nat.reduceAdd, reduceIte, Nat.reduceEqDiff, EX.one, load_put, EX.q0, EX.q1, EX.q5, EX.q6, EX.l6, a1, a2, a3, a4, ev_g hG, EX.avLlen, op_a6, op_l6, d2, decide_true, decide_false, d3, Bool.false_and]
    refine ⟨by simp [allApart, apart], ?_⟩
    exact retQ_ret ▸ retQ_of_pure rfl (PureAV.bool _)
  have d2 : decide ((args.length : Int) ≠ 2) = false := dec_false (by omega)
  have d3 : decide (args.length = 2) = true := dec_true hl
  rw [d3]
  cases b2 : nm.isEmpty <;> cases b4 : noneB n1 w1 n2 w2 <;>
  · rw [b4] at hno
    refine VP.has h ?_
    simp only [w_formula_formed, SS, DD, Nat.reduceAdd, reduceIte, Nat.reduceEqDiff, EX.one, load_put, EX.q0, EX.q1, EX.q5, EX.q6, EX.l6, a1, a2, a3, a4, ev_g hG, EX.avLlen, op_a6, op_l6, d2, decide_true, decide_false, Bool.true_and, Bool.false_and, Bool.and_true, Bool.and_false, Bool.or_true, Bool.or_false, Bool.true_or, Bool.false_or]
    refine ⟨by simp [allApart, apart], ?_⟩
    try simp only [SS, DD, Nat.reduceAdd, reduceIte, Nat.reduceEqDiff, EX.one, load_put, EX.q0, EX.q1, EX.q5, EX.q6, EX.l6, a1, a2, a3, a4, ev_g hG, EX.avLlen, op_a6, op_l6, d2, decide_true, decide_false, Bool.true_and, Bool.false_and]
    first
    | refine vsCall_VP hd (by simp [RR_pure]) ?_
    | refine vsCall_VP hno (by simp [RR_pure]) ?_
    simp only [SS, DD, Nat.reduceAdd, reduceIte, Nat.reduceEqDiff, EX.one, load_put, EX.q0, EX.q1, EX.q5, EX.q6, EX.l6, a1, a2, a3, a4, ev_g hG, EX.avLlen, op_a6, op_l6, d2, decide_true, decide_false, tupX_0, tupX_1, str_nil, b2, Bool.true_and, Bool.false_and]
    first
    | exact retQ_ret ▸ retQ_of_pure rfl (PureAV.bool _)
    | (refine vsCall_VP hn (by simp [PureAV.str]) ?_
       simp only [SS, DD, Nat.reduceAdd, reduceIte, Nat.reduceEqDiff]
       exact retQ_ret ▸ retQ_of_pure rfl (PureAV.bool _))
    | (refine vsCall_VP hc (by intro x hx; simp at hx; rcases hx with rfl | rfl; exact EX.args_pure _; exact fn_pure0 _) ?_
       simp only [SS, DD, Nat.reduceAdd, reduceIte, Nat.reduceEqDiff, Bool.not_not]
       exact retQ_ret ▸ retQ_of_pure rfl (PureAV.bool _))
theorem formed_7 {f fd fn fnone fc f1 : FuncId} {g0 : Nat} (h : Has P f (w_formula_formed fd fn fnone fc f1 g0)) (hG : G g0 = some operandsA)
    (n1 : Bool) (w1 : List Nat) (n2 : Bool) (w2 : List Nat) (nm : List UInt8) (args : List EX)
    (hd : ∃ s, VP P G fd [RR n1 w1 n2 w2] (.tup [.str s, .bool (decB n1 w1 n2 w2)])) (hn : VP P G fn [.str nm] (.bool (isNameB nm))) (hno : VP P G fnone [RR n1 w1 n2 w2] (.bool (noneB n1 w1 n2 w2)))
    (hc : VP P G fc [.sl 7 (EX.avL args), .fn (.func f1) [] []] (.bool (!EX.formedL args))) :
    VP P G f [(EX.mk 7 n1 w1 n2 w2 nm args).av] (.bool (decide (args.length = 2) && (noneB n1 w1 n2 w2 && nm.isEmpty && EX.formedL args))) := by
  have a1 : decide ((7 : Int) < 1) = false := rfl
  have a2 : decide ((7 : Int) < 7) = false := rfl
  have a3 : decide ((7 : Int) = 1) = decide (7 = 1) := rfl
  have a4 : decide ((7 : Int) = 2) = decide (7 = 2) := rfl
  obtain ⟨s, hd⟩ := hd
  by_cases hl : args.length = 2
  case neg =>
    have d2 : decide ((args.length : Int) ≠ 2) = true := dec_true (by omega)
    have d3 : decide (args.length = 2) = false := dec_false hl
    refine VP.has h ?_
    simp only [w_formula_formed, SS, DD, Nat.reduceAdd, reduceIte, Nat.reduceEqDiff, EX.one, load_put, EX.q0, EX.q1, EX.q5, EX.q6, EX.l6, a1, a2, a3, a4, ev_g hG, EX.avLlen, op_a7, op_l7, d2, decide_true, decide_false, d3, Bool.false_and]
    refine ⟨by simp [allApart, apart], ?_⟩
    exact retQ_ret ▸ retQ_of_pure rfl (PureAV.bool _)
  have d2 : decide ((args.length : Int) ≠ 2) = false := dec_false (by omega)
  have d3 : decide (args.length = 2) = true := dec_true hl
  rw [d3]
  cases b2 : nm.isEmpty <;> cases b4 : noneB n1 w1 n2 w2 <;>
  · rw [b4] at hno
    refine VP.has h ?_
    simp only [w_formula_formed, SS, DD, Nat.reduceAdd, reduceIte, Nat.reduceEqDiff, EX.one, load_put, EX.q0, EX.q1, EX.q5, EX.q6, EX.l6, a1, a2, a3, a4, ev_g hG, EX.avLlen, op_a7, op_l7, d2, decide_true, decide_false, Bool.true_and, Bool.false_and, Bool.and_true, Bool.and_false, Bool.or_true, Bool.or_false, Bool.true_or, Bool.false_or]
    refine ⟨by simp [allApart, apart], ?_⟩
    try simp only [SS, DD, Nat.reduceAdd, reduceIte, Nat.reduceEqDiff, EX.one, load_put, EX.q0, EX.q1, EX.q5, EX.q6, EX.l6, a1, a2, a3, a4, ev_g hG, EX.avLlen, op_a7, op_l7, d2, decide_true, decide_false, Bool.true_and, Bool.false_and]
    first
    | refine vsCall_VP hd (by simp [RR_pure]) ?_
    | refine vsCall_VP hno (by simp [RR_pure]) ?_
    simp only [SS, DD, Nat.reduceAdd, reduceIte, Nat.reduceEqDiff, EX.one, load_put, EX.q0, EX.q1, EX.q5, EX.q6, EX.l6, a1, a2, a3, a4, ev_g hG, EX.avLlen, op_a7, op_l7, d2, decide_true, decide_false, tupX_0, tupX_1, str_nil, b2, Bool.true_and, Bool.false_and]
    first
    | exact retQ_ret ▸ retQ_of_pure rfl (PureAV.bool _)
    | (refine vsCall_VP hn (by simp [PureAV.str]) ?_
       simp only [SS, DD, Nat.reduceAdd, reduceIte, Nat.reduceEqDiff]
       exact retQ_ret ▸ retQ_of_pure rfl (PureAV.bool _))
    | (refine vsCall_VP hc (by intro x hx; simp at hx; rcases hx with rfl | rfl; exact EX.args_pure _; exact fn_pure0 _) ?_
       simp only [SS, DD, Nat.reduceAdd, reduceIte, Nat.reduceEqDiff, Bool.not_not]
       exact retQ_ret ▸ retQ_of_pure rfl (PureAV.bool _))
end
end Go.VL
end

section
set_option linter.unusedSimpArgs false
namespace Go.VL
theorem any_bad (args : List EX) : (EX.avL args).any badAV = !EX.formedL args := by
  rw [EX.avL_map, EX.formedL_all]
  induction args with
  | nil => rfl
  | cons a l ih => simp only [List.map_cons, List.any_cons, List.all_cons, badAV_av, ih, Bool.not_and]
theorem EX.len_le : ∀ l : List EX, l.length ≤ EX.nodesL l
  | [] => Nat.le_refl _
  | e :: l => by rw [EX.nodesL, List.length_cons]; have := EX.nodes_pos e; have := EX.len_le l; omega
theorem EX.nodes_mem {x : EX} : ∀ {l : List EX}, x ∈ l → x.nodes ≤ EX.nodesL l
  | e :: l, h => by
    rw [EX.nodesL]
    rcases List.mem_cons.1 h with rfl | h
    · omega
    · have := EX.nodes_mem h; omega
theorem EX.depth_le : ∀ e : EX, e.depth ≤ e.nodes := EX.induct fun op n1 w1 n2 w2 nm args ih => by
  rw [EX.depth, EX.nodes]
  suffices h : EX.depthL args ≤ EX.nodesL args by omega
  induction args with
  | nil => exact Nat.le_refl _
  | cons a l ihl =>
    rw [EX.depthL, EX.nodesL]
    have h1 := ih a (by simp)
    have h2 := ihl fun x hx => ih x (by simp [hx])
    omega
theorem EX.depthL_snoc (x : EX) : ∀ l, EX.depthL (l ++ [x]) = max (EX.depthL l) x.depth
  | [] => by simp [EX.depthL]
  | a :: l => by rw [List.cons_append, EX.depthL, EX.depthL, EX.depthL_snoc x l]; omega
theorem EX.depthL_le (l : List EX) (k : Nat) : EX.depthL (l.take k) ≤ EX.nodesL l := by
  induction l generalizing k with
  | nil => simp [EX.depthL]
  | cons a l ih =>
    cases k with
    | zero => simp [EX.depthL]
    | succ k =>
      rw [List.take_succ_cons, EX.depthL, EX.nodesL]
      have := ih k
      have := EX.depth_le a
      omega
theorem EX.ok_args {op n1 w1 n2 w2 nm args} (h : (EX.mk op n1 w1 n2 w2 nm args).Ok) : ∀ x ∈ args, x.Ok := by
  rw [EX.Ok] at h
  exact EX.okL_iff.1 h.2.2.2.2.2.2.2.2
theorem EX.light_args {op n1 w1 n2 w2 nm args} (h : (EX.mk op n1 w1 n2 w2 nm args).light = true) : (∀ x ∈ args, x.light = true) ∧ w1.length ≤ 8 ∧ w2.length ≤ 8 ∧ nm.length ≤ 60 := by
  rw [EX.light, EX.lightL_all] at h
  simp only [Bool.and_eq_true, List.all_eq_true, decide_eq_true_eq] at h
  exact ⟨h.1.1.1, h.1.1.2, h.1.2, h.2⟩
theorem zeroE_one : ((AV.agg [.int .i64 0, .bool false, .nils, .bool false, .nils, .str [], .nils]).cells.all AV.one = true) = True := by simp [AV.cells, AV.one]
theorem EX.upd (e : EX) : (AV.agg [.int .i64 0, .bool false, .nils, .bool false, .nils, .str [], .nils]).upd 0 e.av.cells = e.av := by cases e; rw [EX.av]; rfl
theorem store_E {σ : Store} {id : Id} {k : Nat} {e : EX} (h : σ id = some ⟨[.agg [.int .i64 0, .bool false, .nils, .bool false, .nils, .str [], .nils]], k, false⟩) : vstore σ 7 (.ref id 0 0) e.av = some { val := .tup [], rd := [id], up := [(id, some ⟨[e.av], k, false⟩)] } := by
  rw [vstore_at (n := 7) (v := e.av) h rfl (by rw [show e.av.cells.length = 7 from EX.size e]) (by simp [AV.size, AV.cells]) (of_eq_true (EX.one e))]
  simp [EX.upd]
section
variable {P : Program} {G : Nat → Option (List AV)}
theorem formed_ok {f fd fn fnone fc f1 fi : FuncId} {g0 : Nat} (h : Has P f (w_formula_formed fd fn fnone fc f1 g0)) (hG : G g0 = some operandsA) (h1 : Has P f1 (w_formula_formed_1 f))
    (hcf : Has P fc (w_slices_ContainsFunc_Lapi_Expr_api_Expr fi)) (hix : Has P fi w_slices_IndexFunc_Lapi_Expr_api_Expr)
    (hd : ∀ n1 w1 n2 w2, Wd w1 → Wd w2 → w1.length ≤ 8 → w2.length ≤ 8 → ∃ s, VP P G fd [RR n1 w1 n2 w2] (.tup [.str s, .bool (decB n1 w1 n2 w2)])) (hn : ∀ s, VP P G fn [.str s] (.bool (isNameB s)))
    (hno : ∀ n1 w1 n2 w2, VP P G fnone [RR n1 w1 n2 w2] (.bool (noneB n1 w1 n2 w2))) : ∀ e : EX, e.Ok → e.light = true → e.nodes ≤ 1000 → VP P G f [e.av] (.bool e.formed) := EX.induct fun op n1 w1 n2 w2 nm args ih hok hli hnd => by
  have hnl : EX.nodesL args ≤ 999 := by rw [EX.nodes] at hnd; omega
  have hal0 : args.length ≤ 999 := Nat.le_trans (EX.len_le args) hnl
  obtain ⟨hla, hl1, hl2, hlnm⟩ := EX.light_args hli
  have hoa := EX.ok_args hok
  rw [EX.Ok] at hok
  obtain ⟨ho1, ho2, hw1, hw2, _, _, _, hal, _⟩ := hok
  have hcc : VP P G fc [.sl 7 (EX.avL args), .fn (.func f1) [] []] (.bool (!EX.formedL args)) := by
    rw [← any_bad]
    refine slices_ContainsFunc_Lapi_Expr_api_Expr_ok hcf (slices_IndexFunc_Lapi_Expr_api_Expr_ok hix ?_ ?_ ?_ (by simp) (by simp) (by rw [EX.avLlen]; omega)) (EX.args_pure _) (fn_pure0 _)
    all_goals
      intro v hv
      rw [EX.avL_map] at hv
      obtain ⟨x, hx, rfl⟩ := List.mem_map.1 hv
    · exact EX.all x
    · rw [badAV_av]; exact formed1_ok h1 x (ih x hx (hoa x hx) (hla x hx) (by have := EX.nodes_mem hx; omega))
    · exact EX.pure x
  have hdd := hd n1 w1 n2 w2 hw1 hw2 hl1 hl2
  rw [EX.formed]
  by_cases o1 : op < 1
  · rw [dec_false (by omega : ¬ 1 ≤ op), Bool.false_and, Bool.false_and, Bool.false_and]
    exact formed_lo h _ _ _ _ _ _ _ o1
  by_cases o7 : 7 < op
  · rw [dec_false (by omega : ¬ op ≤ 7), Bool.and_false, Bool.false_and, Bool.false_and]
    exact formed_hi h _ _ _ _ _ _ _ o7
  have hcases : op = 1 ∨ op = 2 ∨ op = 3 ∨ op = 4 ∨ op = 5 ∨ op = 6 ∨ op = 7 := by omega
  rcases hcases with e | e | e | e | e | e | e <;> subst e
  · exact formed_1 h hG n1 w1 n2 w2 nm args hdd (hn _) (hno _ _ _ _) hcc
  · exact formed_2 h hG n1 w1 n2 w2 nm args hdd (hn _) (hno _ _ _ _) hcc
  · exact formed_3 h hG n1 w1 n2 w2 nm args hdd (hn _) (hno _ _ _ _) hcc
  · exact formed_4 h hG n1 w1 n2 w2 nm args hdd (hn _) (hno _ _ _ _) hcc
  · exact formed_5 h hG n1 w1 n2 w2 nm args hdd (hn _) (hno _ _ _ _) hcc
  · exact formed_6 h hG n1 w1 n2 w2 nm args hdd (hn _) (hno _ _ _ _) hcc
  · exact formed_7 h hG n1 w1 n2 w2 nm args hdd (hn _) (hno _ _ _ _) hcc
theorem fdepth_ok {f : FuncId} (h : Has P f (w_formula_Depth f)) : ∀ e : EX, e.nodes ≤ 1000 → VP P G f [e.av] (.int .i64 (e.depth : Int)) := EX.induct fun op n1 w1 n2 w2 nm args ih hnd => by
  have hnl : EX.nodesL args ≤ 999 := by rw [EX.nodes] at hnd; omega
  have hal : args.length ≤ 999 := Nat.le_trans (EX.len_le args) hnl
  rw [EX.depth]
  refine VP.has h ?_
  simp only [w_formula_Depth, SS, Nat.reduceAdd, reduceIte, EX.one, load_put, EX.q6, EX.l6, EX.avLlen, vwp_loop]
  refine VW.loopQ (α := Nat × Nat) (fun x => ⟨[(EX.mk op n1 w1 n2 w2 nm args).av, .top, .top, .int .i64 ((EX.depthL (args.take x.1) : Nat) : Int), .top, .top, .top, .sl 7 (EX.avL args), .int .i64 (args.length : Int), .int .i64 (x.1 : Int)] ++ List.replicate 10 .top, fun _ => none, x.2⟩)
    (fun x => x.1 ≤ args.length) (fun x => args.length - x.1) (0, 1000) ?_ (Nat.zero_le _) ?_
  · exact Wk.forget (by simp [Fg, List.replicate, EX.depthL]) (fun j => .inl rfl) (by simp only []; omega)
  rintro ⟨i, nn⟩ hi
  simp only [] at hi
  by_cases hlt : i < args.length
  · obtain ⟨x, hx⟩ : ∃ x, args[i]? = some x := ⟨_, List.getElem?_eq_getElem hlt⟩
    have hm := List.mem_of_getElem? hx
    have hxn := EX.nodes_mem hm
    have hg : (EX.avL args)[i]? = some x.av := by rw [EX.avL_map, List.getElem?_map, hx]; rfl
    have d1 : decide ((i : Int) < (args.length : Int)) = true := dec_true (by omega)
    have hdx := EX.depth_le x
    have hdl := EX.depthL_le args i
    simp only [SS, Nat.reduceAdd, reduceIte, d1, iaddrS_sl rfl hg, vload_ep, EX.all, zeroE_one]
    rw [store_E (k := (AV.agg [.int .i64 0, .bool false, .nils, .bool false, .nils, .str [], .nils]).size) (by simp [Store.put])]
    simp only [SS, Nat.reduceAdd, reduceIte, load_put, EX.all]
    refine vsCall_VP (ih x hm (by omega)) (by simp [EX.pure]) ?_
    simp only [SS, Nat.reduceAdd, reduceIte, wrap_succ_i64 i (by omega)]
    have em : (if (x.depth : Int) > ((EX.depthL (args.take i) : Nat) : Int) then (x.depth : Int) else ((EX.depthL (args.take i) : Nat) : Int)) = ((EX.depthL (args.take (i + 1)) : Nat) : Int) := by
      rw [List.take_add_one, hx, Option.toList_some, EX.depthL_snoc]
      split <;> omega
    simp only [em]
    exact ⟨(i + 1, _), by simp only []; omega, by simp only []; omega, Wk.forget (by simp [Fg, List.replicate]) (fun _ => .inl rfl) (Nat.le_refl _)⟩
  · have d1 : decide ((i : Int) < (args.length : Int)) = false := dec_false (by omega)
    have hi' : i = args.length := by omega
    have hdl := EX.depthL_le args args.length
    rw [List.take_length] at hdl
    have hw : IntKind.i64.wrap (((EX.depthL args : Nat) : Int) + 1) = ((EX.depthL args + 1 : Nat) : Int) := by rw [IntKind.wrap_i64]; omega
    subst hi'
    rw [List.take_length]
    simp only [SS, Nat.reduceAdd, reduceIte, d1, hw]
    exact retQ_ret ▸ retQ_of_pure rfl (PureAV.int _ _)
theorem fvalid_ok {f ff fd : FuncId} (h : Has P f (w_formula_Valid ff fd)) (e : EX) (hf : VP P G ff [e.av] (.bool e.formed)) (hd : VP P G fd [e.av] (.int .i64 (e.depth : Int))) :
    VP P G f [e.av] (.int .i64 (if e.formed = true then (if 40 < e.depth then 3 else 0) else 1)) := by
  cases hfe : e.formed
  · rw [hfe] at hf
    refine VP.has h ?_
    simp only [w_formula_Valid, SS, Nat.reduceAdd, reduceIte, EX.one, load_put, EX.all]
    refine vsCall_VP hf (by simp [EX.pure]) ?_
    simp only [SS, Nat.reduceAdd, reduceIte]
    exact retQ_ret ▸ retQ_of_pure rfl (PureAV.int _ _)
  · rw [hfe] at hf
    by_cases hdp : 40 < e.depth
    · have d1 : decide ((40 : Int) < (e.depth : Int)) = true := dec_true (by omega)
      rw [if_pos rfl, if_pos hdp]
      refine VP.has h ?_
      simp only [w_formula_Valid, SS, Nat.reduceAdd, reduceIte, EX.one, load_put, EX.all]
      refine vsCall_VP hf (by simp [EX.pure]) ?_
      simp only [SS, Nat.reduceAdd, reduceIte, load_put, EX.all]
      refine vsCall_VP hd (by simp [EX.pure]) ?_
      simp only [SS, Nat.reduceAdd, reduceIte, d1]
      exact retQ_ret ▸ retQ_of_pure rfl (PureAV.int _ _)
    · have d1 : decide ((40 : Int) < (e.depth : Int)) = false := dec_false (by omega)
      rw [if_pos rfl, if_neg hdp]
      refine VP.has h ?_
      simp only [w_formula_Valid, SS, Nat.reduceAdd, reduceIte, EX.one, load_put, EX.all]
      refine vsCall_VP hf (by simp [EX.pure]) ?_
      simp only [SS, Nat.reduceAdd, reduceIte, load_put, EX.all]
      refine vsCall_VP hd (by simp [EX.pure]) ?_
      simp only [SS, Nat.reduceAdd, reduceIte, d1]
      exact retQ_ret ▸ retQ_of_pure rfl (PureAV.int _ _)
end
end Go.VL
end

section
set_option linter.unusedSimpArgs false
set_option linter.unusedVariables false
namespace Go.VL
theorem VP.hasW {P : Program} {G : Nat → Option (List AV)} {f : FuncId} {vf : VFunc} (h : Has P f vf) {args : List AV} {r : AV} (k : VW P G [] vf.body (RetQ vf.results r) ⟨args ++ List.replicate (vf.nt - args.length) (.tup []), fun _ => none, 0⟩) : VP P G f args r := by
  obtain ⟨fn, h1, h2⟩ := h
  exact VP.of_vw h1 h2 k
theorem VW.cut_seq {P : Program} {G : Nat → Option (List AV)} {π : Id} {Q : VExit → VS → Prop} {x y rest : VCode} {s : VS} (st : VS)
    (h1 : ∀ (K : VS → Prop), (∀ s', Wk G π s' st → K s') → vwp P G π x (Then (vwp P G π y (Then K Q)) Q) s) (h2 : vwp P G π rest Q st) : VW P G π (.seq x (.seq y rest)) Q s := by
  refine VW.seqV ((VW.of (h1 (fun s' => VW P G π rest Q s') (fun s' hw => VW.cut hw h2))).mono ?_)
  intro e s' hq
  cases e with
  | normal => exact VW.seqV (VW.of hq)
  | exit _ => exact hq
  | ret => exact hq
section
variable (op : Int) (n1 : Bool) (w1 : List Nat) (n2 : Bool) (w2 : List Nat) (nm : List UInt8) (args : List EX)
theorem EX.r1 : part false (EX.mk op n1 w1 n2 w2 nm args).av.cells 1 1 = some (.bool n1) := by rw [EX.av]; rfl
theorem EX.r2 : part false (EX.mk op n1 w1 n2 w2 nm args).av.cells 2 1 = some (.sl 1 (us w1)) := by rw [EX.av]; rfl
theorem EX.r3 : part false (EX.mk op n1 w1 n2 w2 nm args).av.cells 3 1 = some (.bool n2) := by rw [EX.av]; rfl
theorem EX.r4 : part false (EX.mk op n1 w1 n2 w2 nm args).av.cells 4 1 = some (.sl 1 (us w2)) := by rw [EX.av]; rfl
end
def shapeB (op : Int) (n1 : Bool) (w1 : List Nat) (n2 : Bool) (w2 : List Nat) (nm : List UInt8) (al : Nat) : Bool :=
  if op = 1 then decB n1 w1 n2 w2 && (nm.isEmpty || isNameB nm) && decide (al = 0)
  else if op = 2 then noneB n1 w1 n2 w2 && isNameB nm && decide (al = 0)
  else if op = 3 then noneB n1 w1 n2 w2 && nm.isEmpty && decide (al = 1)
  else if 4 ≤ op ∧ op ≤ 7 then noneB n1 w1 n2 w2 && nm.isEmpty && decide (al = 2)
  else false
section
variable {P : Program} {G : Nat → Option (List AV)}
def VCode.rest2 : VCode → VCode
  | .seq _ (.seq _ r) => r
  | c => c
def shapeSt (op : Int) (n1 : Bool) (w1 : List Nat) (n2 : Bool) (w2 : List Nat) (nm : List UInt8) (args : List EX) (b : Bool) : VS :=
  ⟨[(EX.mk op n1 w1 n2 w2 nm args).av, .ref [0] 0 0, .bool false, .bool b] ++ List.replicate 102 .top, Store.put (fun _ => none) [0] (some ⟨[(EX.mk op n1 w1 n2 w2 nm args).av], 7, false⟩), 200⟩
theorem shape_pre {f fd fn : FuncId} (h : Has P f (w_setsquareref22_shape fd fn)) (op : Int) (n1 : Bool) (w1 : List Nat) (n2 : Bool) (w2 : List Nat) (nm : List UInt8) (args : List EX) {r : AV}
    (hr : vwp P G [] (w_setsquareref22_shape fd fn).body.rest2 (RetQ [.tmp 2] r) (shapeSt op n1 w1 n2 w2 nm args (noneB n1 w1 n2 w2))) : VP P G f [(EX.mk op n1 w1 n2 w2 nm args).av] r := by
  have hlen : ∀ ws, vlen false (.sl 1 (us ws)) = some (.int .i64 ws.length) := fun ws => by simp [vlen, us_len]
  have d1 : decide ((w1.length : Int) = 0) = w1.isEmpty := by cases w1 <;> simp <;> omega
  have d2 : decide ((w2.length : Int) = 0) = w2.isEmpty := by cases w2 <;> simp <;> omega
  refine VP.hasW h ?_
  unfold w_setsquareref22_shape
  refine VW.cut_seq (shapeSt op n1 w1 n2 w2 nm args (noneB n1 w1 n2 w2)) ?_ hr
  · intro K hK
    unfold noneB at hK
    cases b1 : w1.isEmpty <;> cases b2 : w2.isEmpty <;> cases n1 <;> cases n2 <;>
    · rw [b1] at d1; rw [b2] at d2
      rw [b1, b2] at hK
      simp only [SS, Nat.reduceAdd, reduceIte, Nat.reduceEqDiff, EX.one, load_put, EX.r1, EX.r2, EX.r3, EX.r4, hlen, d1, d2]
      exact hK _ (Wk.slots (by simp [Fg, List.replicate, shapeSt]) (by decide))
set_option maxHeartbeats 2000000 in
theorem shape_1 {f fd fn : FuncId} (h : Has P f (w_setsquareref22_shape fd fn)) (op : Int) (n1 : Bool) (w1 : List Nat) (n2 : Bool) (w2 : List Nat) (nm : List UInt8) (args : List EX)
    (hd : ∃ s, VP P G fd [RR n1 w1 n2 w2] (.tup [.str s, .bool (decB n1 w1 n2 w2)])) (hn : VP P G fn [.str nm] (.bool (isNameB nm))) (e : op = 1) :
    VP P G f [(EX.mk op n1 w1 n2 w2 nm args).av] (.bool (shapeB 1 n1 w1 n2 w2 nm args.length)) := by
  obtain ⟨s, hd⟩ := hd
  have c1 : decide (op = 1) = decide (1 = 1) := by rw [e]; rfl
  have c2 : decide (op = 2) = decide (1 = 2) := by rw [e]; rfl
  have c3 : decide (op = 3) = decide (1 = 3) := by rw [e]; rfl
  have c4 : decide (op = 4) = decide (1 = 4) := by rw [e]; rfl
  have c5 : decide (op = 5) = decide (1 = 5) := by rw [e]; rfl
  have c6 : decide (op = 6) = decide (1 = 6) := by rw [e]; rfl
  have c7 : decide (op = 7) = decide (1 = 7) := by rw [e]; rfl
  have l0 : decide ((args.length : Int) = 0) = decide (args.length = 0) := by by_cases q : args.length = 0 <;> simp [q] <;> omega
  have l1 : decide ((args.length : Int) = 1) = decide (args.length = 1) := by by_cases q : args.length = 1 <;> simp [q] <;> omega
  have l2 : decide ((args.length : Int) = 2) = decide (args.length = 2) := by by_cases q : args.length = 2 <;> simp [q] <;> omega
  refine shape_pre h op n1 w1 n2 w2 nm args ?_
  unfold shapeB shapeSt
  generalize decide (args.length = 0) = L0 at l0 ⊢
  generalize decide (args.length = 1) = L1 at l1 ⊢
  generalize decide (args.length = 2) = L2 at l2 ⊢
  cases b1 : decB n1 w1 n2 w2 <;> cases b2 : nm.isEmpty <;> cases b3 : isNameB nm <;>
  · rw [b1] at hd
    rw [b3] at hn
    simp only [w_setsquareref22_shape, VCode.rest2, SS, Nat.reduceAdd, reduceIte, Nat.reduceEqDiff, load_put, EX.q0, EX.q1, EX.q5, EX.q6, EX.l6, EX.avLlen, c1, c2, c3, c4, c5, c6, c7, l0, l1, l2, str_nil, b2, decide_true, decide_false, Bool.true_and, Bool.false_and, Bool.or_true, Bool.or_false, Bool.true_or, Bool.false_or]
    first
    | exact retQ_ret ▸ retQ_of_pure rfl (PureAV.bool _)
    | (refine vsCall_VP hn (by simp [PureAV.str]) ?_
       simp only [SS, Nat.reduceAdd, reduceIte, Nat.reduceEqDiff, load_put, EX.q6, EX.avLlen, l0]
       exact retQ_ret ▸ retQ_of_pure rfl (PureAV.bool _))
    | (refine vsCall_VP hd (by simp [RR_pure]) ?_
       simp only [SS, Nat.reduceAdd, reduceIte, Nat.reduceEqDiff, tupX_0, tupX_1, load_put, EX.q0, EX.q1, EX.q5, EX.q6, EX.l6, EX.avLlen, c1, c2, c3, c4, c5, c6, c7, l0, l1, l2, str_nil, b2, decide_true, decide_false, Bool.true_and, Bool.false_and, Bool.or_true, Bool.or_false, Bool.true_or, Bool.false_or]
       first
       | exact retQ_ret ▸ retQ_of_pure rfl (PureAV.bool _)
       | (refine vsCall_VP hn (by simp [PureAV.str]) ?_
          simp only [SS, Nat.reduceAdd, reduceIte, Nat.reduceEqDiff, load_put, EX.q6, EX.avLlen, l0]
          exact retQ_ret ▸ retQ_of_pure rfl (PureAV.bool _)))
set_option maxHeartbeats 2000000 in
theorem shape_2 {f fd fn : FuncId} (h : Has P f (w_setsquareref22_shape fd fn)) (op : Int) (n1 : Bool) (w1 : List Nat) (n2 : Bool) (w2 : List Nat) (nm : List UInt8) (args : List EX)
    (hd : ∃ s, VP P G fd [RR n1 w1 n2 w2] (.tup [.str s, .bool (decB n1 w1 n2 w2)])) (hn : VP P G fn [.str nm] (.bool (isNameB nm))) (e : op = 2) :
    VP P G f [(EX.mk op n1 w1 n2 w2 nm args).av] (.bool (shapeB 2 n1 w1 n2 w2 nm args.length)) := by
  obtain ⟨s, hd⟩ := hd
  have c1 : decide (op = 1) = decide (2 = 1) := by rw [e]; rfl
  have c2 : decide (op = 2) = decide (2 = 2) := by rw [e]; rfl
  have c3 : decide (op = 3) = decide (2 = 3) := by rw [e]; rfl
  have c4 : decide (op = 4) = decide (2 = 4) := by rw [e]; rfl
  have c5 : decide (op = 5) = decide (2 = 5) := by rw [e]; rfl
  have c6 : decide (op = 6) = decide (2 = 6) := by rw [e]; rfl
  have c7 : decide (op = 7) = decide (2 = 7) := by rw [e]; rfl
  have l0 : decide ((args.length : Int) = 0) = decide (args.length = 0) := by by_cases q : args.length = 0 <;> simp [q] <;> omega
  have l1 : decide ((args.length : Int) = 1) = decide (args.length = 1) := by by_cases q : args.length = 1 <;> simp [q] <;> omega
  have l2 : decide ((args.length : Int) = 2) = decide (args.length = 2) := by by_cases q : args.length = 2 <;> simp [q] <;> omega
  refine shape_pre h op n1 w1 n2 w2 nm args ?_
  unfold shapeB shapeSt
  generalize decide (args.length = 0) = L0 at l0 ⊢
  generalize decide (args.length = 1) = L1 at l1 ⊢
  generalize decide (args.length = 2) = L2 at l2 ⊢
  cases b3 : isNameB nm <;> cases b4 : noneB n1 w1 n2 w2 <;>
  · rw [b3] at hn
    simp only [w_setsquareref22_shape, VCode.rest2, SS, Nat.reduceAdd, reduceIte, Nat.reduceEqDiff, load_put, EX.q0, EX.q1, EX.q5, EX.q6, EX.l6, EX.avLlen, c1, c2, c3, c4, c5, c6, c7, l0, l1, l2, str_nil, decide_true, decide_false, Bool.true_and, Bool.false_and, Bool.or_true, Bool.or_false, Bool.true_or, Bool.false_or]
    first
    | exact retQ_ret ▸ retQ_of_pure rfl (PureAV.bool _)
    | (refine vsCall_VP hn (by simp [PureAV.str]) ?_
       simp only [SS, Nat.reduceAdd, reduceIte, Nat.reduceEqDiff, load_put, EX.q6, EX.avLlen, l0]
       exact retQ_ret ▸ retQ_of_pure rfl (PureAV.bool _))
    | (refine vsCall_VP hd (by simp [RR_pure]) ?_
       simp only [SS, Nat.reduceAdd, reduceIte, Nat.reduceEqDiff, tupX_0, tupX_1, load_put, EX.q0, EX.q1, EX.q5, EX.q6, EX.l6, EX.avLlen, c1, c2, c3, c4, c5, c6, c7, l0, l1, l2, str_nil, decide_true, decide_false, Bool.true_and, Bool.false_and, Bool.or_true, Bool.or_false, Bool.true_or, Bool.false_or]
       first
       | exact retQ_ret ▸ retQ_of_pure rfl (PureAV.bool _)
       | (refine vsCall_VP hn (by simp [PureAV.str]) ?_
          simp only [SS, Nat.reduceAdd, reduceIte, Nat.reduceEqDiff, load_put, EX.q6, EX.avLlen, l0]
          exact retQ_ret ▸ retQ_of_pure rfl (PureAV.bool _)))
set_option maxHeartbeats 2000000 in
theorem shape_3 {f fd fn : FuncId} (h : Has P f (w_setsquareref22_shape fd fn)) (op : Int) (n1 : Bool) (w1 : List Nat) (n2 : Bool) (w2 : List Nat) (nm : List UInt8) (args : List EX)
    (hd : ∃ s, VP P G fd [RR n1 w1 n2 w2] (.tup [.str s, .bool (decB n1 w1 n2 w2)])) (hn : VP P G fn [.str nm] (.bool (isNameB nm))) (e : op = 3) :
    VP P G f [(EX.mk op n1 w1 n2 w2 nm args).av] (.bool (shapeB 3 n1 w1 n2 w2 nm args.length)) := by
  obtain ⟨s, hd⟩ := hd
  have c1 : decide (op = 1) = decide (3 = 1) := by rw [e]; rfl
  have c2 : decide (op = 2) = decide (3 = 2) := by rw [e]; rfl
  have c3 : decide (op = 3) = decide (3 = 3) := by rw [e]; rfl
  have c4 : decide (op = 4) = decide (3 = 4) := by rw [e]; rfl
  have c5 : decide (op = 5) = decide (3 = 5) := by rw [e]; rfl
  have c6 : decide (op = 6) = decide (3 = 6) := by rw [e]; rfl
  have c7 : decide (op = 7) = decide (3 = 7) := by rw [e]; rfl
  have l0 : decide ((args.length : Int) = 0) = decide (args.length = 0) := by by_cases q : args.length = 0 <;> simp [q] <;> omega
  have l1 : decide ((args.length : Int) = 1) = decide (args.length = 1) := by by_cases q : args.length = 1 <;> simp [q] <;> omega
  have l2 : decide ((args.length : Int) = 2) = decide (args.length = 2) := by by_cases q : args.length = 2 <;> simp [q] <;> omega
  refine shape_pre h op n1 w1 n2 w2 nm args ?_
  unfold shapeB shapeSt
  generalize decide (args.length = 0) = L0 at l0 ⊢
  generalize decide (args.length = 1) = L1 at l1 ⊢
  generalize decide (args.length = 2) = L2 at l2 ⊢
  cases b2 : nm.isEmpty <;> cases b4 : noneB n1 w1 n2 w2 <;>
  · skip
    simp only [w_setsquareref22_shape, VCode.rest2, SS, Nat.reduceAdd, reduceIte, Nat.reduceEqDiff, load_put, EX.q0, EX.q1, EX.q5, EX.q6, EX.l6, EX.avLlen, c1, c2, c3, c4, c5, c6, c7, l0, l1, l2, str_nil, b2, decide_true, decide_false, Bool.true_and, Bool.false_and, Bool.or_true, Bool.or_false, Bool.true_or, Bool.false_or]
    first
    | exact retQ_ret ▸ retQ_of_pure rfl (PureAV.bool _)
    | (refine vsCall_VP hn (by simp [PureAV.str]) ?_
       simp only [SS, Nat.reduceAdd, reduceIte, Nat.reduceEqDiff, load_put, EX.q6, EX.avLlen, l0]
       exact retQ_ret ▸ retQ_of_pure rfl (PureAV.bool _))
    | (refine vsCall_VP hd (by simp [RR_pure]) ?_
       simp only [SS, Nat.reduceAdd, reduceIte, Nat.reduceEqDiff, tupX_0, tupX_1, load_put, EX.q0, EX.q1, EX.q5, EX.q6, EX.l6, EX.avLlen, c1, c2, c3, c4, c5, c6, c7, l0, l1, l2, str_nil, b2, decide_true, decide_false, Bool.true_and, Bool.false_and, Bool.or_true, Bool.or_false, Bool.true_or, Bool.false_or]
       first
       | exact retQ_ret ▸ retQ_of_pure rfl (PureAV.bool _)
       | (refine vsCall_VP hn (by simp [PureAV.str]) ?_
          simp only [SS, Nat.reduceAdd, reduceIte, Nat.reduceEqDiff, load_put, EX.q6, EX.avLlen, l0]
          exact retQ_ret ▸ retQ_of_pure rfl (PureAV.bool _)))
set_option maxHeartbeats 2000000 in
theorem shape_4 {f fd fn : FuncId} (h : Has P f (w_setsquareref22_shape fd fn)) (op : Int) (n1 : Bool) (w1 : List Nat) (n2 : Bool) (w2 : List Nat) (nm : List UInt8) (args : List EX)
    (hd : ∃ s, VP P G fd [RR n1 w1 n2 w2] (.tup [.str s, .bool (decB n1 w1 n2 w2)])) (hn : VP P G fn [.str nm] (.bool (isNameB nm))) (e : op = 4) :
    VP P G f [(EX.mk op n1 w1 n2 w2 nm args).av] (.bool (shapeB 4 n1 w1 n2 w2 nm args.length)) := by
  obtain ⟨s, hd⟩ := hd
  have c1 : decide (op = 1) = decide (4 = 1) := by rw [e]; rfl
  have c2 : decide (op = 2) = decide (4 = 2) := by rw [e]; rfl
  have c3 : decide (op = 3) = decide (4 = 3) := by rw [e]; rfl
  have c4 : decide (op = 4) = decide (4 = 4) := by rw [e]; rfl
  have c5 : decide (op = 5) = decide (4 = 5) := by rw [e]; rfl
  have c6 : decide (op = 6) = decide (4 = 6) := by rw [e]; rfl
  have c7 : decide (op = 7) = decide (4 = 7) := by rw [e]; rfl
  have l0 : decide ((args.length : Int) = 0) = decide (args.length = 0) := by by_cases q : args.length = 0 <;> simp [q] <;> omega
  have l1 : decide ((args.length : Int) = 1) = decide (args.length = 1) := by by_cases q : args.length = 1 <;> simp [q] <;> omega
  have l2 : decide ((args.length : Int) = 2) = decide (args.length = 2) := by by_cases q : args.length = 2 <;> simp [q] <;> omega
  refine shape_pre h op n1 w1 n2 w2 nm args ?_
  unfold shapeB shapeSt
  generalize decide (args.length = 0) = L0 at l0 ⊢
  generalize decide (args.length = 1) = L1 at l1 ⊢
  generalize decide (args.length = 2) = L2 at l2 ⊢
  cases b2 : nm.isEmpty <;> cases b4 : noneB n1 w1 n2 w2 <;>
  · skip
    simp only [w_setsquareref22_shape, VCode.rest2, SS, Nat.reduceAdd, reduceIte, Nat.reduceEqDiff, load_put, EX.q0, EX.q1, EX.q5, EX.q6, EX.l6, EX.avLlen, c1, c2, c3, c4, c5, c6, c7, l0, l1, l2, str_nil, b2, decide_true, decide_false, Bool.true_and, Bool.false_and, Bool.or_true, Bool.or_false, Bool.true_or, Bool.false_or]
    first
    | exact retQ_ret ▸ retQ_of_pure rfl (PureAV.bool _)
    | (refine vsCall_VP hn (by simp [PureAV.str]) ?_
       simp only [SS, Nat.reduceAdd, reduceIte, Nat.reduceEqDiff, load_put, EX.q6, EX.avLlen, l0]
       exact retQ_ret ▸ retQ_of_pure rfl (PureAV.bool _))
    | (refine vsCall_VP hd (by simp [RR_pure]) ?_
       simp only [SS, Nat.reduceAdd, reduceIte, Nat.reduceEqDiff, tupX_0, tupX_1, load_put, EX.q0, EX.q1, EX.q5, EX.q6, EX.l6, EX.avLlen, c1, c2, c3, c4, c5, c6, c7, l0, l1, l2, str_nil, b2, decide_true, decide_false, Bool.true_and, Bool.false_and, Bool.or_true, Bool.or_false, Bool.true_or, Bool.false_or]
       first
       | exact retQ_ret ▸ retQ_of_pure rfl (PureAV.bool _)
       | (refine vsCall_VP hn (by simp [PureAV.str]) ?_
          simp only [SS, Nat.reduceAdd, reduceIte, Nat.reduceEqDiff, load_put, EX.q6, EX.avLlen, l0]
          exact retQ_ret ▸ retQ_of_pure rfl (PureAV.bool _)))
set_option maxHeartbeats 2000000 in
theorem shape_5 {f fd fn : FuncId} (h : Has P f (w_setsquareref22_shape fd fn)) (op : Int) (n1 : Bool) (w1 : List Nat) (n2 : Bool) (w2 : List Nat) (nm : List UInt8) (args : List EX)
    (hd : ∃ s, VP P G fd [RR n1 w1 n2 w2] (.tup [.str s, .bool (decB n1 w1 n2 w2)])) (hn : VP P G fn [.str nm] (.bool (isNameB nm))) (e : op = 5) :
    VP P G f [(EX.mk op n1 w1 n2 w2 nm args).av] (.bool (shapeB 5 n1 w1 n2 w2 nm args.length)) := by
  obtain ⟨s, hd⟩ := hd
  have c1 : decide (op = 1) = decide (5 = 1) := by rw [e]; rfl
  have c2 : decide (op = 2) = decide (5 = 2) := by rw [e]; rfl
  have c3 : decide (op = 3) = decide (5 = 3) := by rw [e]; rfl
  have c4 : decide (op = 4) = decide (5 = 4) := by rw [e]; rfl
  have c5 : decide (op = 5) = decide (5 = 5) := by rw [e]; rfl
  have c6 : decide (op = 6) = decide (5 = 6) := by rw [e]; rfl
  have c7 : decide (op = 7) = decide (5 = 7) := by rw [e]; rfl
  have l0 : decide ((args.length : Int) = 0) = decide (args.length = 0) := by by_cases q : args.length = 0 <;> simp [q] <;> omega
  have l1 : decide ((args.length : Int) = 1) = decide (args.length = 1) := by by_cases q : args.length = 1 <;> simp [q] <;> omega
  have l2 : decide ((args.length : Int) = 2) = decide (args.length = 2) := by by_cases q : args.length = 2 <;> simp [q] <;> omega
  refine shape_pre h op n1 w1 n2 w2 nm args ?_
  unfold shapeB shapeSt
  generalize decide (args.length = 0) = L0 at l0 ⊢
  generalize decide (args.length = 1) = L1 at l1 ⊢
  generalize decide (args.length = 2) = L2 at l2 ⊢
  cases b2 : nm.isEmpty <;> cases b4 : noneB n1 w1 n2 w2 <;>
  · skip
    simp only [w_setsquareref22_shape, VCode.rest2, SS, Nat.reduceAdd, reduceIte, Nat.reduceEqDiff, load_put, EX.q0, EX.q1, EX.q5, EX.q6, EX.l6, EX.avLlen, c1, c2, c3, c4, c5, c6, c7, l0, l1, l2, str_nil, b2, decide_true, decide_false, Bool.true_and, Bool.false_and, Bool.or_true, Bool.or_false, Bool.true_or, Bool.false_or]
    first
    | exact retQ_ret ▸ retQ_of_pure rfl (PureAV.bool _)
    | (refine vsCall_VP hn (by simp [PureAV.str]) ?_
       simp only [SS, Nat.reduceAdd, reduceIte, Nat.reduceEqDiff, load_put, EX.q6, EX.avLlen, l0]
       exact retQ_ret ▸ retQ_of_pure rfl (PureAV.bool _))
    | (refine vsCall_VP hd (by simp [RR_pure]) ?_
       simp only [SS, Nat.reduceAdd, reduceIte, Nat.reduceEqDiff, tupX_0, tupX_1, load_put, EX.q0, EX.q1, EX.q5, EX.q6, EX.l6, EX.avLlen, c1, c2, c3, c4, c5, c6, c7, l0, l1, l2, str_nil, b2, decide_true, decide_false, Bool.true_and, Bool.false_and, Bool.or_true, Bool.or_false, Bool.true_or, Bool.false_or]
       first
       | exact retQ_ret ▸ retQ_of_pure rfl (PureAV.bool _)
       | (refine vsCall_VP hn (by simp [PureAV.str]) ?_
          simp only [SS, Nat.reduceAdd, reduceIte, Nat.reduceEqDiff, load_put, EX.q6, EX.avLlen, l0]
          exact retQ_ret ▸ retQ_of_pure rfl (PureAV.bool _)))
set_option maxHeartbeats 2000000 in
theorem shape_6 {f fd fn : FuncId} (h : Has P f (w_setsquareref22_shape fd fn)) (op : Int) (n1 : Bool) (w1 : List Nat) (n2 : Bool) (w2 : List Nat) (nm : List UInt8) (args : List EX)
    (hd : ∃ s, VP P G fd [RR n1 w1 n2 w2] (.tup [.str s, .bool (decB n1 w1 n2 w2)])) (hn : VP P G fn [.str nm] (.bool (isNameB nm))) (e : op = 6) :
    VP P G f [(EX.mk op n1 w1 n2 w2 nm args).av] (.bool (shapeB 6 n1 w1 n2 w2 nm args.length)) := by
  obtain ⟨s, hd⟩ := hd
  have c1 : decide (op = 1) = decide (6 = 1) := by rw [e]; rfl
  have c2 : decide (op = 2) = decide (6 = 2) := by rw [e]; rfl
  have c3 : decide (op = 3) = decide (6 = 3) := by rw [e]; rfl
  have c4 : decide (op = 4) = decide (6 = 4) := by rw [e]; rfl
  have c5 : decide (op = 5) = decide (6 = 5) := by rw [e]; rfl
  have c6 : decide (op = 6) = decide (6 = 6) := by rw [e]; rfl
  have c7 : decide (op = 7) = decide (6 = 7) := by rw [e]; rfl
  have l0 : decide ((args.length : Int) = 0) = decide (args.length = 0) := by by_cases q : args.length = 0 <;> simp [q] <;> omega
  have l1 : decide ((args.length : Int) = 1) = decide (args.length = 1) := by by_cases q : args.length = 1 <;> simp [q] <;> omega
  have l2 : decide ((args.length : Int) = 2) = decide (args.length = 2) := by by_cases q : args.length = 2 <;> simp [q] <;> omega
  refine shape_pre h op n1 w1 n2 w2 nm args ?_
  unfold shapeB shapeSt
  generalize decide (args.length = 0) = L0 at l0 ⊢
  generalize decide (args.length = 1) = L1 at l1 ⊢
  generalize decide (args.length = 2) = L2 at l2 ⊢
  cases b2 : nm.isEmpty <;> cases b4 : noneB n1 w1 n2 w2 <;>
  · skip
    simp only [w_setsquareref22_shape, VCode.rest2, SS, Nat.reduceAdd, reduceIte, Nat.reduceEqDiff, load_put, EX.q0, EX.q1, EX.q5, EX.q6, EX.l6, EX.avLlen, c1, c2, c3, c4, c5, c6, c7, l0, l1, l2, str_nil, b2, decide_true, decide_false, Bool.true_and, Bool.false_and, Bool.or_true, Bool.or_false, Bool.true_or, Bool.false_or]
    first
    | exact retQ_ret ▸ retQ_of_pure rfl (PureAV.bool _)
    | (refine vsCall_VP hn (by simp [PureAV.str]) ?_
       simp only [SS, Nat.reduceAdd, reduceIte, Nat.reduceEqDiff, load_put, EX.q6, EX.avLlen, l0]
       exact retQ_ret ▸ retQ_of_pure rfl (PureAV.bool _))
    | (refine vsCall_VP hd (by simp [RR_pure]) ?_
       simp only [SS, Nat.reduceAdd, reduceIte, Nat.reduceEqDiff, tupX_0, tupX_1, load_put, EX.q0, EX.q1, EX.q5, EX.q6, EX.l6, EX.avLlen, c1, c2, c3, c4, c5, c6, c7, l0, l1, l2, str_nil, b2, decide_true, decide_false, Bool.true_and, Bool.false_and, Bool.or_true, Bool.or_false, Bool.true_or, Bool.false_or]
       first
       | exact retQ_ret ▸ retQ_of_pure rfl (PureAV.bool _)
       | (refine vsCall_VP hn (by simp [PureAV.str]) ?_
          simp only [SS, Nat.reduceAdd, reduceIte, Nat.reduceEqDiff, load_put, EX.q6, EX.avLlen, l0]
          exact retQ_ret ▸ retQ_of_pure rfl (PureAV.bool _)))
set_option maxHeartbeats 2000000 in
theorem shape_7 {f fd fn : FuncId} (h : Has P f (w_setsquareref22_shape fd fn)) (op : Int) (n1 : Bool) (w1 : List Nat) (n2 : Bool) (w2 : List Nat) (nm : List UInt8) (args : List EX)
    (hd : ∃ s, VP P G fd [RR n1 w1 n2 w2] (.tup [.str s, .bool (decB n1 w1 n2 w2)])) (hn : VP P G fn [.str nm] (.bool (isNameB nm))) (e : op = 7) :
    VP P G f [(EX.mk op n1 w1 n2 w2 nm args).av] (.bool (shapeB 7 n1 w1 n2 w2 nm args.length)) := by
  obtain ⟨s, hd⟩ := hd
  have c1 : decide (op = 1) = decide (7 = 1) := by rw [e]; rfl
  have c2 : decide (op = 2) = decide (7 = 2) := by rw [e]; rfl
  have c3 : decide (op = 3) = decide (7 = 3) := by rw [e]; rfl
  have c4 : decide (op = 4) = decide (7 = 4) := by rw [e]; rfl
  have c5 : decide (op = 5) = decide (7 = 5) := by rw [e]; rfl
  have c6 : decide (op = 6) = decide (7 = 6) := by rw [e]; rfl
  have c7 : decide (op = 7) = decide (7 = 7) := by rw [e]; rfl
  have l0 : decide ((args.length : Int) = 0) = decide (args.length = 0) := by by_cases q : args.length = 0 <;> simp [q] <;> omega
  have l1 : decide ((args.length : Int) = 1) = decide (args.length = 1) := by by_cases q : args.length = 1 <;> simp [q] <;> omega
  have l2 : decide ((args.length : Int) = 2) = decide (args.length = 2) := by by_cases q : args.length = 2 <;> simp [q] <;> omega
  refine shape_pre h op n1 w1 n2 w2 nm args ?_
  unfold shapeB shapeSt
  generalize decide (args.length = 0) = L0 at l0 ⊢
  generalize decide (args.length = 1) = L1 at l1 ⊢
  generalize decide (args.length = 2) = L2 at l2 ⊢
  cases b2 : nm.isEmpty <;> cases b4 : noneB n1 w1 n2 w2 <;>
  · skip
    simp only [w_setsquareref22_shape, VCode.rest2, SS, Nat.reduceAdd, reduceIte, Nat.reduceEqDiff, load_put, EX.q0, EX.q1, EX.q5, EX.q6, EX.l6, EX.avLlen, c1, c2, c3, c4, c5, c6, c7, l0, l1, l2, str_nil, b2, decide_true, decide_false, Bool.true_and, Bool.false_and, Bool.or_true, Bool.or_false, Bool.true_or, Bool.false_or]
    first
    | exact retQ_ret ▸ retQ_of_pure rfl (PureAV.bool _)
    | (refine vsCall_VP hn (by simp [PureAV.str]) ?_
       simp only [SS, Nat.reduceAdd, reduceIte, Nat.reduceEqDiff, load_put, EX.q6, EX.avLlen, l0]
       exact retQ_ret ▸ retQ_of_pure rfl (PureAV.bool _))
    | (refine vsCall_VP hd (by simp [RR_pure]) ?_
       simp only [SS, Nat.reduceAdd, reduceIte, Nat.reduceEqDiff, tupX_0, tupX_1, load_put, EX.q0, EX.q1, EX.q5, EX.q6, EX.l6, EX.avLlen, c1, c2, c3, c4, c5, c6, c7, l0, l1, l2, str_nil, b2, decide_true, decide_false, Bool.true_and, Bool.false_and, Bool.or_true, Bool.or_false, Bool.true_or, Bool.false_or]
       first
       | exact retQ_ret ▸ retQ_of_pure rfl (PureAV.bool _)
       | (refine vsCall_VP hn (by simp [PureAV.str]) ?_
          simp only [SS, Nat.reduceAdd, reduceIte, Nat.reduceEqDiff, load_put, EX.q6, EX.avLlen, l0]
          exact retQ_ret ▸ retQ_of_pure rfl (PureAV.bool _)))
set_option maxHeartbeats 2000000 in
theorem shape_o {f fd fn : FuncId} (h : Has P f (w_setsquareref22_shape fd fn)) (op : Int) (n1 : Bool) (w1 : List Nat) (n2 : Bool) (w2 : List Nat) (nm : List UInt8) (args : List EX)
    (hd : ∃ s, VP P G fd [RR n1 w1 n2 w2] (.tup [.str s, .bool (decB n1 w1 n2 w2)])) (hn : VP P G fn [.str nm] (.bool (isNameB nm))) (e : op < 1 ∨ 7 < op) :
    VP P G f [(EX.mk op n1 w1 n2 w2 nm args).av] (.bool (shapeB 0 n1 w1 n2 w2 nm args.length)) := by
  obtain ⟨s, hd⟩ := hd
  have c1 : decide (op = 1) = false := dec_false (by omega)
  have c2 : decide (op = 2) = false := dec_false (by omega)
  have c3 : decide (op = 3) = false := dec_false (by omega)
  have c4 : decide (op = 4) = false := dec_false (by omega)
  have c5 : decide (op = 5) = false := dec_false (by omega)
  have c6 : decide (op = 6) = false := dec_false (by omega)
  have c7 : decide (op = 7) = false := dec_false (by omega)
  have l0 : decide ((args.length : Int) = 0) = decide (args.length = 0) := by by_cases q : args.length = 0 <;> simp [q] <;> omega
  have l1 : decide ((args.length : Int) = 1) = decide (args.length = 1) := by by_cases q : args.length = 1 <;> simp [q] <;> omega
  have l2 : decide ((args.length : Int) = 2) = decide (args.length = 2) := by by_cases q : args.length = 2 <;> simp [q] <;> omega
  refine shape_pre h op n1 w1 n2 w2 nm args ?_
  unfold shapeB shapeSt
  generalize decide (args.length = 0) = L0 at l0 ⊢
  generalize decide (args.length = 1) = L1 at l1 ⊢
  generalize decide (args.length = 2) = L2 at l2 ⊢
  · skip
    simp only [w_setsquareref22_shape, VCode.rest2, SS, Nat.reduceAdd, reduceIte, Nat.reduceEqDiff, load_put, EX.q0, EX.q1, EX.q5, EX.q6, EX.l6, EX.avLlen, c1, c2, c3, c4, c5, c6, c7, l0, l1, l2, str_nil, decide_true, decide_false, Bool.true_and, Bool.false_and, Bool.or_true, Bool.or_false, Bool.true_or, Bool.false_or]
    first
    | exact retQ_ret ▸ retQ_of_pure rfl (PureAV.bool _)
    | (refine vsCall_VP hn (by simp [PureAV.str]) ?_
       simp only [SS, Nat.reduceAdd, reduceIte, Nat.reduceEqDiff, load_put, EX.q6, EX.avLlen, l0]
       exact retQ_ret ▸ retQ_of_pure rfl (PureAV.bool _))
    | (refine vsCall_VP hd (by simp [RR_pure]) ?_
       simp only [SS, Nat.reduceAdd, reduceIte, Nat.reduceEqDiff, tupX_0, tupX_1, load_put, EX.q0, EX.q1, EX.q5, EX.q6, EX.l6, EX.avLlen, c1, c2, c3, c4, c5, c6, c7, l0, l1, l2, str_nil, decide_true, decide_false, Bool.true_and, Bool.false_and, Bool.or_true, Bool.or_false, Bool.true_or, Bool.false_or]
       first
       | exact retQ_ret ▸ retQ_of_pure rfl (PureAV.bool _)
       | (refine vsCall_VP hn (by simp [PureAV.str]) ?_
          simp only [SS, Nat.reduceAdd, reduceIte, Nat.reduceEqDiff, load_put, EX.q6, EX.avLlen, l0]
          exact retQ_ret ▸ retQ_of_pure rfl (PureAV.bool _)))
theorem shape_ok {f fd fn : FuncId} (h : Has P f (w_setsquareref22_shape fd fn)) (op : Int) (n1 : Bool) (w1 : List Nat) (n2 : Bool) (w2 : List Nat) (nm : List UInt8) (args : List EX)
    (hd : ∃ s, VP P G fd [RR n1 w1 n2 w2] (.tup [.str s, .bool (decB n1 w1 n2 w2)])) (hn : VP P G fn [.str nm] (.bool (isNameB nm))) :
    VP P G f [(EX.mk op n1 w1 n2 w2 nm args).av] (.bool (shapeB op n1 w1 n2 w2 nm args.length)) := by
  by_cases ho : op < 1 ∨ 7 < op
  · have e : shapeB op n1 w1 n2 w2 nm args.length = shapeB 0 n1 w1 n2 w2 nm args.length := by
      unfold shapeB
      rw [if_neg (by omega), if_neg (by omega), if_neg (by omega), if_neg (by omega)]; rfl
    rw [e]
    exact shape_o h op n1 w1 n2 w2 nm args hd hn ho
  have hcases : op = 1 ∨ op = 2 ∨ op = 3 ∨ op = 4 ∨ op = 5 ∨ op = 6 ∨ op = 7 := by omega
  rcases hcases with e | e | e | e | e | e | e
  · have := shape_1 h op n1 w1 n2 w2 nm args hd hn e; rwa [← e] at this
  · have := shape_2 h op n1 w1 n2 w2 nm args hd hn e; rwa [← e] at this
  · have := shape_3 h op n1 w1 n2 w2 nm args hd hn e; rwa [← e] at this
  · have := shape_4 h op n1 w1 n2 w2 nm args hd hn e; rwa [← e] at this
  · have := shape_5 h op n1 w1 n2 w2 nm args hd hn e; rwa [← e] at this
  · have := shape_6 h op n1 w1 n2 w2 nm args hd hn e; rwa [← e] at this
  · have := shape_7 h op n1 w1 n2 w2 nm args hd hn e; rwa [← e] at this
end
end Go.VL
end

section
set_option linter.unusedSimpArgs false
set_option linter.unusedVariables false
namespace Go.VL
theorem EX.formed_shape (op : Int) (n1 : Bool) (w1 : List Nat) (n2 : Bool) (w2 : List Nat) (nm : List UInt8) (args : List EX) :
    (EX.mk op n1 w1 n2 w2 nm args).formed = (shapeB op n1 w1 n2 w2 nm args.length && EX.formedL args) := by
  rw [EX.formed]
  unfold shapeB arity
  have hnil : args.length = 0 → EX.formedL args = true := fun h => by rw [List.length_eq_zero_iff.1 h]; rfl
  by_cases h1 : op = 1
  · subst h1
    by_cases h0 : args.length = 0
    · simp [h0, hnil h0]
    · simp [h0]
  rw [if_neg h1, if_neg h1]
  by_cases h2 : op = 2
  · subst h2
    by_cases h0 : args.length = 0
    · simp [h0, hnil h0]
    · simp [h0]
  rw [if_neg h2, if_neg h2]
  by_cases h3 : op = 3
  · subst h3
    by_cases h0 : args.length = 1
    · simp [h0]
    · simp [h0]
  rw [if_neg h3]
  by_cases h4 : 4 ≤ op ∧ op ≤ 7
  · have a1 : ¬ op ≤ 2 := by omega
    have a2 : ¬ op ≤ 3 := by omega
    have a3 : 1 ≤ op := by omega
    rw [if_pos h4, if_neg a1, if_neg a2]
    by_cases h0 : args.length = 2
    · simp [h0, a3, h4.2]
    · simp [h0]
  · rw [if_neg h4, Bool.false_and]
    by_cases a3 : 1 ≤ op
    · have a4 : ¬ op ≤ 7 := by omega
      simp [a4]
    · simp [a3]
section
variable {P : Program} {G : Nat → Option (List AV)}
theorem rformed_ok {f fs : FuncId} (h : Has P f (w_setsquareref22_Formed fs f))
    (hs : ∀ op n1 w1 n2 w2 nm args, (EX.mk op n1 w1 n2 w2 nm args).Ok → (EX.mk op n1 w1 n2 w2 nm args).light = true → VP P G fs [(EX.mk op n1 w1 n2 w2 nm args).av] (.bool (shapeB op n1 w1 n2 w2 nm args.length))) :
    ∀ e : EX, e.Ok → e.light = true → VP P G f [e.av] (.bool e.formed) := EX.induct fun op n1 w1 n2 w2 nm args ih hok hli => by
  have hsh := hs _ _ _ _ _ _ _ hok hli
  have hoa := EX.ok_args hok
  have hla := (EX.light_args hli).1
  rw [EX.Ok] at hok
  obtain ⟨_, _, _, _, _, _, _, hal, _⟩ := hok
  rw [EX.formed_shape]
  cases hb : shapeB op n1 w1 n2 w2 nm args.length
  · rw [hb] at hsh
    refine VP.has h ?_
    simp only [w_setsquareref22_Formed, SS, Nat.reduceAdd, reduceIte, EX.one, load_put, EX.all]
    refine vsCall_VP hsh (by simp [EX.pure]) ?_
    simp only [SS, Nat.reduceAdd, reduceIte, Bool.false_and]
    exact retQ_ret ▸ retQ_of_pure rfl (PureAV.bool _)
  rw [hb] at hsh
  rw [EX.formedL_all, Bool.true_and]
  refine VP.has h ?_
  simp only [w_setsquareref22_Formed, SS, Nat.reduceAdd, reduceIte, EX.one, load_put, EX.all]
  refine vsCall_VP hsh (by simp [EX.pure]) ?_
  simp only [SS, Nat.reduceAdd, reduceIte, vwp_loop]
  refine VW.loopQ (α := Nat × Nat) (fun x => ⟨[(EX.mk op n1 w1 n2 w2 nm args).av, .ref [0] 0 0, .bool false, .int .i64 (x.1 : Int)] ++ List.replicate 17 .top, Store.put (fun _ => none) [0] (some ⟨[(EX.mk op n1 w1 n2 w2 nm args).av], 7, false⟩), x.2⟩)
    (fun x => x.1 ≤ args.length ∧ (args.take x.1).all EX.formed = true) (fun x => args.length - x.1) (0, 1000) ?_ ⟨Nat.zero_le _, by simp⟩ ?_
  · exact Wk.slots (by simp [Fg, List.replicate]) (by omega)
  rintro ⟨i, nn⟩ ⟨hi, hall⟩
  simp only [] at hi hall
  by_cases hlt : i < args.length
  · obtain ⟨x, hx⟩ : ∃ x, args[i]? = some x := ⟨_, List.getElem?_eq_getElem hlt⟩
    have hm := List.mem_of_getElem? hx
    have hg : (EX.avL args)[i]? = some x.av := by rw [EX.avL_map, List.getElem?_map, hx]; rfl
    have d1 : decide ((i : Int) < (args.length : Int)) = true := dec_true (by omega)
    have hfx := ih x hm (hoa x hm) (hla x hm)
    simp only [SS, Nat.reduceAdd, reduceIte, load_put, EX.q6, EX.avLlen, d1, iaddrS_sl rfl hg, vload_ep, EX.all]
    refine vsCall_VP hfx (by simp [EX.pure]) ?_
    cases hxf : x.formed
    · have e : args.all EX.formed = false := by
        rw [Bool.eq_false_iff]; intro hh
        rw [List.all_eq_true] at hh
        rw [hh x hm] at hxf; cases hxf
      rw [e]
      simp only [SS, Nat.reduceAdd, reduceIte]
      exact retQ_ret ▸ retQ_of_pure rfl (PureAV.bool _)
    · simp only [SS, Nat.reduceAdd, reduceIte, wrap_succ_i64 i (by omega)]
      refine ⟨(i + 1, _), ⟨by simp only []; omega, ?_⟩, by simp only []; omega, Wk.slots (by simp [Fg, List.replicate]) (Nat.le_refl _)⟩
      simp only []
      rw [List.take_add_one, hx, List.all_append, hall]
      simp [hxf]
  · have d1 : decide ((i : Int) < (args.length : Int)) = false := dec_false (by omega)
    have hi' : i = args.length := by omega
    rw [hi', List.take_length] at hall
    rw [hall]
    simp only [SS, Nat.reduceAdd, reduceIte, load_put, EX.q6, EX.avLlen, d1]
    exact retQ_ret ▸ retQ_of_pure rfl (PureAV.bool _)
theorem rdepth_ok {f : FuncId} (h : Has P f (w_setsquareref22_Depth f)) : ∀ e : EX, e.nodes ≤ 1000 → VP P G f [e.av] (.int .i64 (e.depth : Int)) := EX.induct fun op n1 w1 n2 w2 nm args ih hnd => by
  have hnl : EX.nodesL args ≤ 999 := by rw [EX.nodes] at hnd; omega
  have hal : args.length ≤ 999 := Nat.le_trans (EX.len_le args) hnl
  rw [EX.depth]
  refine VP.has h ?_
  simp only [w_setsquareref22_Depth, SS, Nat.reduceAdd, reduceIte, EX.one, vwp_loop]
  refine VW.loopQ (α := Nat × Nat) (fun x => ⟨[(EX.mk op n1 w1 n2 w2 nm args).av, .ref [0] 0 0, .top, .int .i64 ((EX.depthL (args.take x.1) : Nat) : Int), .int .i64 (x.1 : Int)] ++ List.replicate 17 .top, Store.put (fun _ => none) [0] (some ⟨[(EX.mk op n1 w1 n2 w2 nm args).av], 7, false⟩), x.2⟩)
    (fun x => x.1 ≤ args.length) (fun x => args.length - x.1) (0, 1000) ?_ (Nat.zero_le _) ?_
  · exact Wk.slots (by simp [Fg, List.replicate, EX.depthL]) (by omega)
  rintro ⟨i, nn⟩ hi
  simp only [] at hi
  by_cases hlt : i < args.length
  · obtain ⟨x, hx⟩ : ∃ x, args[i]? = some x := ⟨_, List.getElem?_eq_getElem hlt⟩
    have hm := List.mem_of_getElem? hx
    have hxn := EX.nodes_mem hm
    have hg : (EX.avL args)[i]? = some x.av := by rw [EX.avL_map, List.getElem?_map, hx]; rfl
    have d1 : decide ((i : Int) < (args.length : Int)) = true := dec_true (by omega)
    have em : (if (x.depth : Int) > ((EX.depthL (args.take i) : Nat) : Int) then (x.depth : Int) else ((EX.depthL (args.take i) : Nat) : Int)) = ((EX.depthL (args.take (i + 1)) : Nat) : Int) := by
      rw [List.take_add_one, hx, Option.toList_some, EX.depthL_snoc]
      split <;> omega
    simp only [SS, Nat.reduceAdd, reduceIte, load_put, EX.q6, EX.avLlen, d1, iaddrS_sl rfl hg, vload_ep, EX.all]
    refine vsCall_VP (ih x hm (by omega)) (by simp [EX.pure]) ?_
    simp only [SS, Nat.reduceAdd, reduceIte, wrap_succ_i64 i (by omega), em]
    exact ⟨(i + 1, _), by simp only []; omega, by simp only []; omega, Wk.slots (by simp [Fg, List.replicate]) (Nat.le_refl _)⟩
  · have d1 : decide ((i : Int) < (args.length : Int)) = false := dec_false (by omega)
    have hi' : i = args.length := by omega
    have hdl := EX.depthL_le args args.length
    rw [List.take_length] at hdl
    have hw : IntKind.i64.wrap (((EX.depthL args : Nat) : Int) + 1) = ((EX.depthL args + 1 : Nat) : Int) := by rw [IntKind.wrap_i64]; omega
    subst hi'
    rw [List.take_length]
    simp only [SS, Nat.reduceAdd, reduceIte, load_put, EX.q6, EX.avLlen, d1, hw]
    exact retQ_ret ▸ retQ_of_pure rfl (PureAV.int _ _)
theorem rvalid22_ok {f ff fd : FuncId} (h : Has P f (w_setsquareref22_Valid ff fd)) (e : EX) (hf : VP P G ff [e.av] (.bool e.formed)) (hd : VP P G fd [e.av] (.int .i64 (e.depth : Int))) :
    VP P G f [e.av] (.int .i64 (if e.formed = true then (if 40 < e.depth then 3 else 0) else 1)) := by
  cases hfe : e.formed
  · rw [hfe] at hf
    refine VP.has h ?_
    simp only [w_setsquareref22_Valid, SS, Nat.reduceAdd, reduceIte, EX.one, load_put, EX.all]
    refine vsCall_VP hf (by simp [EX.pure]) ?_
    simp only [SS, Nat.reduceAdd, reduceIte]
    exact retQ_ret ▸ retQ_of_pure rfl (PureAV.int _ _)
  · rw [hfe] at hf
    by_cases hdp : 40 < e.depth
    · have d1 : decide ((40 : Int) < (e.depth : Int)) = true := dec_true (by omega)
      rw [if_pos rfl, if_pos hdp]
      refine VP.has h ?_
      simp only [w_setsquareref22_Valid, SS, Nat.reduceAdd, reduceIte, EX.one, load_put, EX.all]
      refine vsCall_VP hf (by simp [EX.pure]) ?_
      simp only [SS, Nat.reduceAdd, reduceIte, load_put, EX.all]
      refine vsCall_VP hd (by simp [EX.pure]) ?_
      simp only [SS, Nat.reduceAdd, reduceIte, d1]
      exact retQ_ret ▸ retQ_of_pure rfl (PureAV.int _ _)
    · have d1 : decide ((40 : Int) < (e.depth : Int)) = false := dec_false (by omega)
      rw [if_pos rfl, if_neg hdp]
      refine VP.has h ?_
      simp only [w_setsquareref22_Valid, SS, Nat.reduceAdd, reduceIte, EX.one, load_put, EX.all]
      refine vsCall_VP hf (by simp [EX.pure]) ?_
      simp only [SS, Nat.reduceAdd, reduceIte, load_put, EX.all]
      refine vsCall_VP hd (by simp [EX.pure]) ?_
      simp only [SS, Nat.reduceAdd, reduceIte, d1]
      exact retQ_ret ▸ retQ_of_pure rfl (PureAV.int _ _)
theorem light_ok {f : FuncId} (h : Has P f (w_setsquareref22_light f)) : ∀ e : EX, e.Ok → VP P G f [e.av] (.bool e.light) := EX.induct fun op n1 w1 n2 w2 nm args ih hok => by
  have hoa := EX.ok_args hok
  rw [EX.Ok] at hok
  obtain ⟨_, _, _, _, _, _, _, hal, _⟩ := hok
  rw [EX.light, EX.lightL_all]
  have hlen : ∀ ws, vlen false (.sl 1 (us ws)) = some (.int .i64 ws.length) := fun ws => by simp [vlen, us_len]
  have l1 : decide ((w1.length : Int) ≤ 8) = decide (w1.length ≤ 8) := by by_cases q : w1.length ≤ 8 <;> simp [q] <;> omega
  have l2 : decide ((w2.length : Int) ≤ 8) = decide (w2.length ≤ 8) := by by_cases q : w2.length ≤ 8 <;> simp [q] <;> omega
  have l3 : decide ((nm.length : Int) ≤ 60) = decide (nm.length ≤ 60) := by by_cases q : nm.length ≤ 60 <;> simp [q] <;> omega
  refine VP.has h ?_
  simp only [w_setsquareref22_light, SS, Nat.reduceAdd, reduceIte, EX.one, vwp_loop]
  refine VW.loopQ (α := Nat × Nat) (fun x => ⟨[(EX.mk op n1 w1 n2 w2 nm args).av, .ref [0] 0 0, .bool false, .int .i64 (x.1 : Int)] ++ List.replicate 34 .top, Store.put (fun _ => none) [0] (some ⟨[(EX.mk op n1 w1 n2 w2 nm args).av], 7, false⟩), x.2⟩)
    (fun x => x.1 ≤ args.length ∧ (args.take x.1).all EX.light = true) (fun x => args.length - x.1) (0, 1000) ?_ ⟨Nat.zero_le _, by simp⟩ ?_
  · exact Wk.slots (by simp [Fg, List.replicate]) (by omega)
  rintro ⟨i, nn⟩ ⟨hi, hall⟩
  simp only [] at hi hall
  by_cases hlt : i < args.length
  · obtain ⟨x, hx⟩ : ∃ x, args[i]? = some x := ⟨_, List.getElem?_eq_getElem hlt⟩
    have hm := List.mem_of_getElem? hx
    have hg : (EX.avL args)[i]? = some x.av := by rw [EX.avL_map, List.getElem?_map, hx]; rfl
    have d1 : decide ((i : Int) < (args.length : Int)) = true := dec_true (by omega)
    have hfx := ih x hm (hoa x hm)
    simp only [SS, Nat.reduceAdd, reduceIte, load_put, EX.q6, EX.avLlen, d1, iaddrS_sl rfl hg, vload_ep, EX.all]
    refine vsCall_VP hfx (by simp [EX.pure]) ?_
    cases hxf : x.light
    · have e : args.all EX.light = false := by
        rw [Bool.eq_false_iff]; intro hh
        rw [List.all_eq_true] at hh
        rw [hh x hm] at hxf; cases hxf
      rw [e]
      simp only [SS, Nat.reduceAdd, reduceIte, Bool.false_and]
      exact retQ_ret ▸ retQ_of_pure rfl (PureAV.bool _)
    · simp only [SS, Nat.reduceAdd, reduceIte, wrap_succ_i64 i (by omega)]
      refine ⟨(i + 1, _), ⟨by simp only []; omega, ?_⟩, by simp only []; omega, Wk.slots (by simp [Fg, List.replicate]) (Nat.le_refl _)⟩
      simp only []
      rw [List.take_add_one, hx, List.all_append, hall]
      simp [hxf]
  · have d1 : decide ((i : Int) < (args.length : Int)) = false := dec_false (by omega)
    have hi' : i = args.length := by omega
    rw [hi', List.take_length] at hall
    rw [hall, Bool.true_and]
    cases b1 : decide (w1.length ≤ 8) <;> cases b2 : decide (w2.length ≤ 8) <;>
    · rw [b1] at l1
      rw [b2] at l2
      simp only [SS, Nat.reduceAdd, reduceIte, load_put, EX.q6, EX.avLlen, d1, EX.r2, EX.r4, EX.q5, hlen, l1, l2, l3, Bool.true_and, Bool.false_and]
      exact retQ_ret ▸ retQ_of_pure rfl (PureAV.bool _)
def nodesUp (L n : Nat) : Nat := if n ≤ L then n else L + 1
theorem EX.nodesL_snoc (x : EX) : ∀ l, EX.nodesL (l ++ [x]) = EX.nodesL l + x.nodes
  | [] => by simp [EX.nodesL]
  | a :: l => by rw [List.cons_append, EX.nodesL, EX.nodesL, EX.nodesL_snoc x l]; omega
theorem EX.nodesL_take (l : List EX) (k : Nat) : EX.nodesL (l.take k) ≤ EX.nodesL l := by
  induction l generalizing k with
  | nil => simp [EX.nodesL]
  | cons a l ih => cases k with
    | zero => simp [EX.nodesL]
    | succ k => rw [List.take_succ_cons, EX.nodesL, EX.nodesL]; have := ih k; omega
theorem nodes_ok {f : FuncId} (h : Has P f (w_setsquareref22_Nodes f)) : ∀ e : EX, e.Ok → ∀ L : Nat, L ≤ 1000 → VP P G f [e.av, .int .i64 (L : Int)] (.int .i64 ((nodesUp L e.nodes : Nat) : Int)) := EX.induct fun op n1 w1 n2 w2 nm args ih hok L hL => by
  have hoa := EX.ok_args hok
  rw [EX.Ok] at hok
  obtain ⟨_, _, _, _, _, _, _, hal, _⟩ := hok
  rw [EX.nodes]
  refine VP.has h ?_
  simp only [w_setsquareref22_Nodes, SS, Nat.reduceAdd, reduceIte, EX.one, vwp_loop]
  refine VW.loopQ (α := Nat × Nat) (fun x => ⟨[(EX.mk op n1 w1 n2 w2 nm args).av, .int .i64 (L : Int), .ref [0] 0 0, .top, .top, .int .i64 ((nodesUp L (1 + EX.nodesL (args.take x.1)) : Nat) : Int), .int .i64 (x.1 : Int)] ++ List.replicate 24 .top, Store.put (fun _ => none) [0] (some ⟨[(EX.mk op n1 w1 n2 w2 nm args).av], 7, false⟩), x.2⟩)
    (fun x => x.1 ≤ args.length) (fun x => args.length - x.1) (0, 1000) ?_ (Nat.zero_le _) ?_
  · have e0 : nodesUp L (1 + EX.nodesL (args.take 0)) = 1 := by rw [List.take_zero, EX.nodesL]; unfold nodesUp; split <;> omega
    simp only [e0]
    exact Wk.slots (by simp [Fg, List.replicate]) (by omega)
  rintro ⟨i, nn⟩ hi
  simp only [] at hi
  by_cases hlt : i < args.length
  · obtain ⟨x, hx⟩ : ∃ x, args[i]? = some x := ⟨_, List.getElem?_eq_getElem hlt⟩
    have hm := List.mem_of_getElem? hx
    have hg : (EX.avL args)[i]? = some x.av := by rw [EX.avL_map, List.getElem?_map, hx]; rfl
    have d1 : decide ((i : Int) < (args.length : Int)) = true := dec_true (by omega)
    by_cases hn : 1 + EX.nodesL (args.take i) ≤ L
    · have e1 : nodesUp L (1 + EX.nodesL (args.take i)) = 1 + EX.nodesL (args.take i) := if_pos hn
      have d2 : decide (((1 + EX.nodesL (args.take i) : Nat) : Int) ≤ (L : Int)) = true := dec_true (by omega)
      have hw : IntKind.i64.wrap ((L : Int) - ((1 + EX.nodesL (args.take i) : Nat) : Int)) = ((L - (1 + EX.nodesL (args.take i)) : Nat) : Int) := by rw [IntKind.wrap_i64]; omega
      have hfx := ih x hm (hoa x hm) (L - (1 + EX.nodesL (args.take i))) (by omega)
      have hup : nodesUp (L - (1 + EX.nodesL (args.take i))) x.nodes ≤ L + 1 := by unfold nodesUp; split <;> omega
      have hw2 : IntKind.i64.wrap (((1 + EX.nodesL (args.take i) : Nat) : Int) + ((nodesUp (L - (1 + EX.nodesL (args.take i))) x.nodes : Nat) : Int)) = ((nodesUp L (1 + EX.nodesL (args.take (i + 1))) : Nat) : Int) := by
        rw [List.take_add_one, hx, Option.toList_some, EX.nodesL_snoc]
        unfold nodesUp at hup ⊢
        rw [IntKind.wrap_i64]
        split <;> split <;> omega
      simp only [e1]
      simp only [SS, Nat.reduceAdd, reduceIte, load_put, EX.q6, EX.avLlen, d1, d2, iaddrS_sl rfl hg, vload_ep, EX.all, hw]
      refine vsCall_VP hfx (by simp [EX.pure, PureAV.int]) ?_
      simp only [SS, Nat.reduceAdd, reduceIte, wrap_succ_i64 i (by omega), hw2]
      exact ⟨(i + 1, _), by simp only []; omega, by simp only []; omega, Wk.slots (by simp [Fg, List.replicate]) (Nat.le_refl _)⟩
    · have e1 : nodesUp L (1 + EX.nodesL (args.take i)) = L + 1 := if_neg hn
      have d2 : decide (((L + 1 : Nat) : Int) ≤ (L : Int)) = false := dec_false (by omega)
      have ht := EX.nodesL_take args i
      have e2 : nodesUp L (1 + EX.nodesL args) = L + 1 := if_neg (by omega)
      simp only [e1]
      rw [e2]
      simp only [SS, Nat.reduceAdd, reduceIte, load_put, EX.q6, EX.avLlen, d1, d2]
      exact retQ_ret ▸ retQ_of_pure rfl (PureAV.int _ _)
  · have d1 : decide ((i : Int) < (args.length : Int)) = false := dec_false (by omega)
    have hi' : i = args.length := by omega
    subst hi'
    simp only [List.take_length]
    simp only [SS, Nat.reduceAdd, reduceIte, load_put, EX.q6, EX.avLlen, d1]
    exact retQ_ret ▸ retQ_of_pure rfl (PureAV.int _ _)
theorem small22_ok {f fn fl : FuncId} (h : Has P f (w_setsquareref22_Small fn fl)) (e : EX) (hn : VP P G fn [e.av, .int .i64 120] (.int .i64 ((nodesUp 120 e.nodes : Nat) : Int))) (hl : VP P G fl [e.av] (.bool e.light)) :
    VP P G f [e.av] (.bool (decide (e.nodes ≤ 120) && e.light)) := by
  by_cases hd : e.nodes ≤ 120
  · have e1 : nodesUp 120 e.nodes = e.nodes := if_pos hd
    have d1 : decide ((e.nodes : Int) ≤ 120) = true := dec_true (by omega)
    rw [e1] at hn
    rw [dec_true hd, Bool.true_and]
    refine VP.has h ?_
    simp only [w_setsquareref22_Small, SS, Nat.reduceAdd, reduceIte, EX.one, load_put, EX.all]
    refine vsCall_VP hn (by simp [EX.pure, PureAV.int]) ?_
    simp only [SS, Nat.reduceAdd, reduceIte, d1, load_put, EX.all]
    refine vsCall_VP hl (by simp [EX.pure]) ?_
    simp only [SS, Nat.reduceAdd, reduceIte]
    exact retQ_ret ▸ retQ_of_pure rfl (PureAV.bool _)
  · have e1 : nodesUp 120 e.nodes = 121 := if_neg hd
    have d1 : decide ((((121 : Nat)) : Int) ≤ 120) = false := by decide
    rw [e1] at hn
    rw [dec_false hd, Bool.false_and]
    refine VP.has h ?_
    simp only [w_setsquareref22_Small, SS, Nat.reduceAdd, reduceIte, EX.one, load_put, EX.all]
    refine vsCall_VP hn (by simp [EX.pure, PureAV.int]) ?_
    simp only [SS, Nat.reduceAdd, reduceIte, d1, load_put, EX.all]
    exact retQ_ret ▸ retQ_of_pure rfl (PureAV.bool _)
end
end Go.VL
end

section
set_option linter.unusedSimpArgs false
set_option linter.unusedVariables false
namespace Go.VL
def wordN (s : List UInt8) : Nat := match s with
  | [] => 0
  | c :: _ => if isLetterB c = true then spanN isWordB s else 0
section
variable {P : Program} {G : Nat → Option (List AV)}
theorem word_ok {f fl fd : FuncId} (h : Has P f (w_setsquareref21_word fl fd)) (hl : ∀ c, VP P G fl [byteAV c] (.bool (isLetterB c))) (hd : ∀ c, VP P G fd [byteAV c] (.bool (isDigitB c)))
    (s : List UInt8) (hs : s.length < 9223372036854775807) : VP P G f [.str s, .int .i64 0] (.int .i64 ((wordN s : Nat) : Int)) := by
  cases s with
  | nil =>
    refine VP.has h ?_
    have z0 : decide ((0 : Int) = ((0 : Nat) : Int)) = true := rfl
    have e : wordN [] = 0 := rfl
    rw [e]
    simp only [w_setsquareref21_word, SS, Nat.reduceAdd, reduceIte, z0, decide_true]
    exact retQ_ret ▸ retQ_of_pure rfl (PureAV.int _ _)
  | cons c0 s0 =>
    generalize hs0 : c0 :: s0 = s at hs ⊢
    have hlen : 0 < s.length := by rw [← hs0]; simp
    have d0 : decide ((0 : Int) = (s.length : Int)) = false := dec_false (by omega)
    have hc0 : s[0]? = some c0 := by rw [← hs0]; rfl
    have hi0 := indexS_at (k := 0) hc0
    simp only [Int.natCast_zero] at hi0
    cases hlt0 : isLetterB c0
    · have hl0 := hl c0
      rw [hlt0] at hl0
      have e : wordN s = 0 := by rw [← hs0]; simp [wordN, hlt0]
      rw [e]
      refine VP.has h ?_
      simp only [w_setsquareref21_word, SS, Nat.reduceAdd, reduceIte, d0, hi0]
      refine vsCall_VP hl0 (by simp [byteAV_pure]) ?_
      simp only [SS, Nat.reduceAdd, reduceIte]
      exact retQ_ret ▸ retQ_of_pure rfl (PureAV.int _ _)
    have hl0 := hl c0
    rw [hlt0] at hl0
    have e : wordN s = spanN isWordB s := by rw [← hs0]; simp [wordN, hlt0]
    rw [e]
    refine VP.has h ?_
    simp only [w_setsquareref21_word, SS, Nat.reduceAdd, reduceIte, d0, hi0]
    refine vsCall_VP hl0 (by simp [byteAV_pure]) ?_
    simp only [SS, Nat.reduceAdd, reduceIte, vwp_loop]
    refine VW.loopQ (α := Nat × Nat) (fun x => ⟨[.str s, .int .i64 (x.1 : Int), .top, .top, .top] ++ List.replicate 37 .top, fun _ => none, x.2⟩) (fun x => x.1 ≤ spanN isWordB s) (fun x => spanN isWordB s - x.1) (0, 1000) ?_ (Nat.zero_le _) ?_
    · exact Wk.slots (by simp [Fg, List.replicate]) (by omega)
    rintro ⟨k, n⟩ hk
    simp only [] at hk
    have hkl := spanN_le isWordB s
    by_cases hlt : k < s.length
    · obtain ⟨c, hc⟩ : ∃ c, s[k]? = some c := ⟨_, List.getElem?_eq_getElem hlt⟩
      have d1 : decide ((k : Int) < (s.length : Int)) = true := dec_true (by omega)
      have hlc := hl c
      have hdc := hd c
      have hwd : isWordB c = (isLetterB c || isDigitB c || decide ((c.toNat : Int) = 95)) := rfl
      have hin : isWordB c = true → k < spanN isWordB s := fun hw => by
        rcases Nat.lt_or_ge k (spanN isWordB s) with q | q
        · exact q
        · have hke : k = spanN isWordB s := by omega
          rcases spanN_stop isWordB s with h0 | ⟨c', hc', hpc⟩
          · rw [← hke, hc] at h0; cases h0
          · rw [← hke, hc] at hc'; cases hc'; rw [hw] at hpc; cases hpc
      have hout : isWordB c = false → k = spanN isWordB s := fun hw => by
        rcases Nat.lt_or_ge k (spanN isWordB s) with q | q
        · obtain ⟨c', hc', hpc⟩ := spanN_at isWordB s k q
          rw [hc] at hc'; cases hc'; rw [hw] at hpc; cases hpc
        · omega
      have hby : (byteAV c) = .int .u8 (c.toNat : Int) := rfl
      cases b1 : isLetterB c
      · rw [b1] at hlc hwd
        cases b2 : isDigitB c
        · rw [b2] at hdc hwd
          cases b3 : decide ((c.toNat : Int) = 95)
          · rw [b3] at hwd
            have hke := hout hwd
            simp only [SS, Nat.reduceAdd, reduceIte, d1, indexS_at hc]
            refine vsCall_VP hlc (by simp [byteAV_pure]) ?_
            simp only [SS, Nat.reduceAdd, reduceIte, indexS_at hc]
            refine vsCall_VP hdc (by simp [byteAV_pure]) ?_
            simp only [SS, Nat.reduceAdd, reduceIte, indexS_at hc, hby, b3]
            rw [← hke]
            exact retQ_ret ▸ retQ_of_pure rfl (PureAV.int _ _)
          · rw [b3] at hwd
            have hkl := hin hwd
            simp only [SS, Nat.reduceAdd, reduceIte, d1, indexS_at hc]
            refine vsCall_VP hlc (by simp [byteAV_pure]) ?_
            simp only [SS, Nat.reduceAdd, reduceIte, indexS_at hc]
            refine vsCall_VP hdc (by simp [byteAV_pure]) ?_
            simp only [SS, Nat.reduceAdd, reduceIte, indexS_at hc, hby, b3, wrap_succ_i64 k (by omega)]
            exact ⟨(k + 1, _), by simp only []; omega, by simp only []; omega, Wk.slots (by simp [Fg, List.replicate]) (Nat.le_refl _)⟩
        · rw [b2] at hdc hwd
          have hkl := hin hwd
          simp only [SS, Nat.reduceAdd, reduceIte, d1, indexS_at hc]
          refine vsCall_VP hlc (by simp [byteAV_pure]) ?_
          simp only [SS, Nat.reduceAdd, reduceIte, indexS_at hc]
          refine vsCall_VP hdc (by simp [byteAV_pure]) ?_
          simp only [SS, Nat.reduceAdd, reduceIte, wrap_succ_i64 k (by omega)]
          exact ⟨(k + 1, _), by simp only []; omega, by simp only []; omega, Wk.slots (by simp [Fg, List.replicate]) (Nat.le_refl _)⟩
      · rw [b1] at hlc hwd
        have hkl := hin hwd
        simp only [SS, Nat.reduceAdd, reduceIte, d1, indexS_at hc]
        refine vsCall_VP hlc (by simp [byteAV_pure]) ?_
        simp only [SS, Nat.reduceAdd, reduceIte, wrap_succ_i64 k (by omega)]
        exact ⟨(k + 1, _), by simp only []; omega, by simp only []; omega, Wk.slots (by simp [Fg, List.replicate]) (Nat.le_refl _)⟩
    · have d1 : decide ((k : Int) < (s.length : Int)) = false := dec_false (by omega)
      have hke : k = spanN isWordB s := by omega
      rw [← hke]
      simp only [SS, Nat.reduceAdd, reduceIte, d1]
      exact retQ_ret ▸ retQ_of_pure rfl (PureAV.int _ _)
theorem rIsName_ok {f fw : FuncId} (h : Has P f (w_setsquareref21_IsName fw)) (hw : ∀ s : List UInt8, s.length < 9223372036854775807 → VP P G fw [.str s, .int .i64 0] (.int .i64 ((wordN s : Nat) : Int))) (s : List UInt8) :
    VP P G f [.str s] (.bool (isNameB s)) := by
  cases s with
  | nil =>
    refine VP.has h ?_
    simp only [w_setsquareref21_IsName, SS, Nat.reduceAdd, reduceIte]
    exact retQ_ret ▸ retQ_of_pure rfl (PureAV.bool _)
  | cons c s =>
    have e0 : (!((c :: s) == ([] : List UInt8))) = true := rfl
    by_cases h1 : (((s.length + 1 : Nat)) : Int) ≤ 24
    · refine VP.has h ?_
      simp only [w_setsquareref21_IsName, SS, Nat.reduceAdd, reduceIte, e0, h1, decide_true]
      refine vsCall_VP (hw (c :: s) (by simp only [List.length_cons]; omega)) (by simp [PureAV.str, PureAV.int]) ?_
      by_cases h3 : wordN (c :: s) = s.length + 1
      · have h4 : (wordN (c :: s) : Int) = ((s.length + 1 : Nat) : Int) := by omega
        have : isNameB (c :: s) = true := by
          have hv : isNameB (c :: s) = (decide ((c :: s).length ≤ 24) && isLetterB c && decide (spanN isWordB (c :: s) = (c :: s).length)) := rfl
          have hwv : wordN (c :: s) = if isLetterB c = true then spanN isWordB (c :: s) else 0 := rfl
          rw [hwv] at h3
          rw [hv]
          cases h2 : isLetterB c
          · rw [h2] at h3; simp at h3
          · rw [h2, if_pos rfl] at h3
            have g1 : decide ((c :: s).length ≤ 24) = true := dec_true (by rw [List.length_cons]; omega)
            have g2 : decide (spanN isWordB (c :: s) = (c :: s).length) = true := dec_true (by rw [List.length_cons]; omega)
            rw [g1, g2]; rfl
        rw [this]
        simp only [SS, Nat.reduceAdd, reduceIte, h4, decide_true]
        exact retQ_ret ▸ retQ_of_pure rfl (PureAV.bool _)
      · have h4 : ¬ (wordN (c :: s) : Int) = ((s.length + 1 : Nat) : Int) := by omega
        have : isNameB (c :: s) = false := by
          have hv : isNameB (c :: s) = (decide ((c :: s).length ≤ 24) && isLetterB c && decide (spanN isWordB (c :: s) = (c :: s).length)) := rfl
          have hwv : wordN (c :: s) = if isLetterB c = true then spanN isWordB (c :: s) else 0 := rfl
          rw [hwv] at h3
          rw [hv]
          cases h2 : isLetterB c
          · rw [Bool.and_false, Bool.false_and]
          · rw [h2, if_pos rfl] at h3
            have g2 : decide (spanN isWordB (c :: s) = (c :: s).length) = false := dec_false (by rw [List.length_cons]; omega)
            rw [g2, Bool.and_false]
        rw [this]
        simp only [SS, Nat.reduceAdd, reduceIte, h4, decide_false]
        exact retQ_ret ▸ retQ_of_pure rfl (PureAV.bool _)
    · refine VP.has h ?_
      have : isNameB (c :: s) = false := by unfold isNameB; simp only [List.length_cons]; simp; intro h; omega
      rw [this]
      simp only [w_setsquareref21_IsName, SS, Nat.reduceAdd, reduceIte, e0, h1, decide_false]
      exact retQ_ret ▸ retQ_of_pure rfl (PureAV.bool _)
end
end Go.VL
end
