/- HistoryFull: the contracts of this seat's program. -/
import Derived.Test.YtcomlgfjnjpebaaGreatDoorHas
import Derived.Test.YtcomlgfjnjpebaaGreatDoorKn
import Derived.Test.YtcomlgfjnjpebaaGreatDoorVL25
import Derived.KernelRfl
import Derived.Test.YtcomlgfjnjpebaaGreatDoorCLex
import Derived.Test.YtcomlgfjnjpebaaGreatDoorCH9
set_option maxRecDepth 100000
namespace Go.Proofs.YtcomlgfjnjpebaaGreatDoor
open Go.VL Go.Proofs

set_option maxRecDepth 100000 in
theorem awake_vp : VP Tryz.prog (fun _ => none) 9 [] (.bool true) := VP.of_memo m4_ok rfl rfl (FlatAV.bool true)

abbrev G0 : Nat → Option (List AV) := fun _ => none

theorem isLetter_c : ∀ c, VP Tryz.prog G0 73 [byteAV c] (.bool (isLetterB c)) := isLetter_ok has_lexer_isLetter
theorem isDigit_c : ∀ c, VP Tryz.prog G0 103 [byteAV c] (.bool (isDigitB c)) := isDigit_ok has_lexer_isDigit
theorem isWord_c : ∀ c, VP Tryz.prog G0 75 [byteAV c] (.bool (isWordB c)) := isWord_ok has_lexer_isWord isLetter_c isDigit_c
theorem span_c : ∀ s : List UInt8, s.length < 9223372036854775807 → VP Tryz.prog G0 74 [.str s, .fn (.func 75) [] []] (.int .i64 (spanN isWordB s)) := fun s hs => span_ok has_lexer_span isWord_c s hs
theorem isName_c : ∀ s, VP Tryz.prog G0 50 [.str s] (.bool (isNameB s)) := isName_ok has_lexer_IsName isLetter_c span_c

theorem ins_any0 (f : FuncId) : VP Tryz.prog G0 51 [strs [], .fn (.func f) [] []] (.bool false) := by
  have h := slices_IndexFunc_Lstring_string_ok (G := G0) has_slices_IndexFunc_Lstring_string (fw := f) (a := []) (c := []) (es := []) (p := fun _ => false) (by simp) (by simp) (by simp) (by simp) (by simp) (by simp)
  exact slices_ContainsFunc_Lstring_string_ok has_slices_ContainsFunc_Lstring_string h (strs_pure []) (PureAV.fn (by simp) (by simp))
theorem vals_any0 (f : FuncId) : VP Tryz.prog G0 54 [.sl 7 [], .fn (.func f) [] []] (.bool false) := by
  have h := slices_IndexFunc_Lapi_Expr_api_Expr_ok (G := G0) has_slices_IndexFunc_Lapi_Expr_api_Expr (fw := f) (a := []) (c := []) (es := []) (p := fun _ => false) (by simp) (by simp) (by simp) (by simp) (by simp) (by simp)
  exact slices_ContainsFunc_Lapi_Expr_api_Expr_ok has_slices_ContainsFunc_Lapi_Expr_api_Expr h (vals_pure (by simp)) (PureAV.fn (by simp) (by simp))

theorem valid_c (s : List UInt8) : VP Tryz.prog G0 29 [(bare s).av] (.bool (isNameB s)) := by
  have h := valid_ok (G := G0) has_history_valid isName_c (bare s) (bare_ok s) (bi := false) (bv := false) (fun _ => ins_any0 52) (fun _ => vals_any0 55)
  have e : (isNameB (bare s).name && decide (1 ≤ (bare s).kind) && decide ((bare s).kind ≤ 6) && decide ((bare s).inputs.length ≤ 50) && decide ((bare s).values.length ≤ 10) && !false && !false) = isNameB s := by simp [bare]
  rw [e] at h
  exact h

theorem find_c : ∀ (l : List Feat) (nm : List UInt8), (∀ F ∈ l, F.Ok) → l.length < 9223372036854775807 → VP Tryz.prog G0 37 [feats l, .str nm] (.int .i64 (findI l nm)) :=
  fun _ nm hl hlen => find_ok has_history_list_find (fun F nm => find_1_ok has_history_list_find_1 F nm) has_slices_IndexFunc_history_list_api_Feature hl hlen nm

theorem clone_c (s : List UInt8) : VP Tryz.prog G0 39 [(bare s).av] (bare s).av :=
  clone0_ok has_history_clone (bare_ok s) rfl (slices_Clone_Lstring_string_ok has_slices_Clone_Lstring_string (es := []) (by simp) rfl (by simp [flat]) (by simp))
    (slices_Clone_Lapi_Expr_api_Expr_ok has_slices_Clone_Lapi_Expr_api_Expr (es := []) (by simp) rfl (by simp [flat]) (by simp))

def mLen : Memo := ⟨59, [], [(.int .u64 0)], [], { val := .int .i64 0, rd := [], up := [] }⟩
theorem mLen_run : resB (evFunc (known []) (run (fun _ => none) (known []) tab 3000) tab mLen.f mLen.args mLen.p (mLen.S.map fun x => (x.1, x.2, false))) mLen.r = true := by kernel_rfl
theorem mLen_ok : MemoOk Tryz.prog (fun _ => none) mLen := MemoOk.run (known_ok (fun _ => none) (fun m hm => by simp at hm)) tab_of 3000 mLen mLen_run
theorem len_c : VP Tryz.prog G0 59 [.int .u64 0] (.int .i64 0) := VP.of_memo mLen_ok rfl rfl (FlatAV.int _ _)

theorem sort_c : VP Tryz.prog G0 31 [.nils] (.tup []) :=
  sort0_ok has_slices_Sort_Lstring_string len_c (pdq0_ok has_slices_pdqsortOrdered_string (ins0_ok has_slices_insertionSortOrdered_string))

theorem needs_c (s : List UInt8) : VP Tryz.prog G0 11 [(bare s).av] (strs []) := needs0_ok has_history_Needs (bare_ok s) rfl (valid_c s) sort_c (compact0_ok has_slices_Compact_Lstring_string)

theorem appendHas : AppendHas Tryz.prog G0 14 36 29 37 38 39 40 41 67 68 where
  app := has_history_History_Append
  present := has_history_History_present
  valid := fun s hs => by have h := valid_c s; rw [hs] at h; exact h
  find := find_c
  cloneL := has_slices_Clone_history_list_api_Feature
  clone := clone_c
  sat := fun l hl hlen => satisfied0_ok has_history_list_satisfied (bare_all hl) hlen fun F hF => by obtain ⟨s, rfl⟩ := hl F hF; exact needs_c s
  change := has_history_History_change
  eqf := has_slices_EqualFunc_history_list_history_list_api_Feature_api_Feature

theorem law_vp (m : Nat) (hm : m < 256) : VP Tryz.prog G0 4 [.int .u8 m] (.bool true) :=
  full_ok has_setsquarelaw53_HistoryFull awake_vp has_history_New (sketched_ok has_setsquarelaw53_sketched) appendHas has_history_History_Features m hm

end Go.Proofs.YtcomlgfjnjpebaaGreatDoor
