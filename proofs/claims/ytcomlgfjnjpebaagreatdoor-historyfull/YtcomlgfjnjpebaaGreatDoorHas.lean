/- The functions of this seat that have contracts. Written by program. -/
import Derived.Test.YtcomlgfjnjpebaaGreatDoorProg
import Derived.KernelRfl
import Derived.Test.YtcomlgfjnjpebaaGreatDoorVL27
import Derived.Test.YtcomlgfjnjpebaaGreatDoorGA
import Derived.Test.YtcomlgfjnjpebaaGreatDoorGB
set_option maxRecDepth 100000
namespace Go.Proofs.YtcomlgfjnjpebaaGreatDoor
open Go.VL Go.Proofs

theorem has_lexer_isLetter : Has Tryz.prog 73 (w_lexer_isLetter) := ⟨_, Tryz.func73, by kernel_rfl⟩
theorem has_lexer_isDigit : Has Tryz.prog 103 (w_lexer_isDigit) := ⟨_, Tryz.func103, by kernel_rfl⟩
theorem has_lexer_isWord : Has Tryz.prog 75 (w_lexer_isWord 73 103) := ⟨_, Tryz.func75, by kernel_rfl⟩
theorem has_lexer_span : Has Tryz.prog 74 (w_lexer_span) := ⟨_, Tryz.func74, by kernel_rfl⟩
theorem has_lexer_IsName : Has Tryz.prog 50 (w_lexer_IsName 73 74 75) := ⟨_, Tryz.func50, by kernel_rfl⟩
theorem has_history_New : Has Tryz.prog 13 (w_history_New) := ⟨_, Tryz.func13, by kernel_rfl⟩
theorem has_history_History_Append : Has Tryz.prog 14 (w_history_History_Append 36 29 37 38 39 40 41) := ⟨_, Tryz.func14, by kernel_rfl⟩
theorem has_history_valid : Has Tryz.prog 29 (w_history_valid 50 51 52 54 55) := ⟨_, Tryz.func29, by kernel_rfl⟩
theorem has_slices_ContainsFunc_Lstring_string : Has Tryz.prog 51 (w_slices_ContainsFunc_Lstring_string 76) := ⟨_, Tryz.func51, by kernel_rfl⟩
theorem has_slices_IndexFunc_Lstring_string : Has Tryz.prog 76 (w_slices_IndexFunc_Lstring_string) := ⟨_, Tryz.func76, by kernel_rfl⟩
theorem has_slices_ContainsFunc_Lapi_Expr_api_Expr : Has Tryz.prog 54 (w_slices_ContainsFunc_Lapi_Expr_api_Expr 77) := ⟨_, Tryz.func54, by kernel_rfl⟩
theorem has_slices_IndexFunc_Lapi_Expr_api_Expr : Has Tryz.prog 77 (w_slices_IndexFunc_Lapi_Expr_api_Expr) := ⟨_, Tryz.func77, by kernel_rfl⟩
theorem has_history_list_find : Has Tryz.prog 37 (w_history_list_find 63 62) := ⟨_, Tryz.func37, by kernel_rfl⟩
theorem has_slices_IndexFunc_history_list_api_Feature : Has Tryz.prog 62 (w_slices_IndexFunc_history_list_api_Feature) := ⟨_, Tryz.func62, by kernel_rfl⟩
theorem has_history_list_find_1 : Has Tryz.prog 63 (w_history_list_find_1) := ⟨_, Tryz.func63, by kernel_rfl⟩
theorem has_slices_Clone_history_list_api_Feature : Has Tryz.prog 38 (w_slices_Clone_history_list_api_Feature) := ⟨_, Tryz.func38, by kernel_rfl⟩
theorem has_history_clone : Has Tryz.prog 39 (w_history_clone 64 65 66) := ⟨_, Tryz.func39, by kernel_rfl⟩
theorem has_slices_Clone_Lstring_string : Has Tryz.prog 64 (w_slices_Clone_Lstring_string) := ⟨_, Tryz.func64, by kernel_rfl⟩
theorem has_slices_Clone_Lapi_Expr_api_Expr : Has Tryz.prog 65 (w_slices_Clone_Lapi_Expr_api_Expr) := ⟨_, Tryz.func65, by kernel_rfl⟩
theorem has_history_list_satisfied : Has Tryz.prog 40 (w_history_list_satisfied 11 37) := ⟨_, Tryz.func40, by kernel_rfl⟩
theorem has_history_Needs : Has Tryz.prog 11 (w_history_Needs 29 30 31 32) := ⟨_, Tryz.func11, by kernel_rfl⟩
theorem has_slices_Sort_Lstring_string : Has Tryz.prog 31 (w_slices_Sort_Lstring_string 59 58) := ⟨_, Tryz.func31, by kernel_rfl⟩
theorem has_slices_pdqsortOrdered_string : Has Tryz.prog 58 (w_slices_pdqsortOrdered_string 81 82 83 84 85 86 87 88 89 58) := ⟨_, Tryz.func58, by kernel_rfl⟩
theorem has_math_bits_Len : Has Tryz.prog 59 (w_math_bits_Len 90 91) := ⟨_, Tryz.func59, by kernel_rfl⟩
theorem has_math_bits_Len64 : Has Tryz.prog 91 (w_math_bits_Len64) := ⟨_, Tryz.func91, by kernel_rfl⟩
theorem has_slices_Compact_Lstring_string : Has Tryz.prog 32 (w_slices_Compact_Lstring_string) := ⟨_, Tryz.func32, by kernel_rfl⟩
theorem has_slices_insertionSortOrdered_string : Has Tryz.prog 81 (w_slices_insertionSortOrdered_string 87) := ⟨_, Tryz.func81, by kernel_rfl⟩
theorem has_history_History_change : Has Tryz.prog 41 (w_history_History_change 36 67 68) := ⟨_, Tryz.func41, by kernel_rfl⟩
theorem has_slices_EqualFunc_history_list_history_list_api_Feature_api_Feature : Has Tryz.prog 67 (w_slices_EqualFunc_history_list_history_list_api_Feature_api_Feature) := ⟨_, Tryz.func67, by kernel_rfl⟩
theorem has_history_History_present : Has Tryz.prog 36 (w_history_History_present) := ⟨_, Tryz.func36, by kernel_rfl⟩
theorem has_history_History_Features : Has Tryz.prog 16 (w_history_History_Features 36 39) := ⟨_, Tryz.func16, by kernel_rfl⟩
theorem has_setsquarelaw53_sketched : Has Tryz.prog 15 (w_setsquarelaw53_sketched) := ⟨_, Tryz.func15, by kernel_rfl⟩
theorem has_setsquarelaw53_HistoryFull : Has Tryz.prog 4 (w_setsquarelaw53_HistoryFull 9 13 15 14 16) := ⟨_, Tryz.func4, by kernel_rfl⟩

end Go.Proofs.YtcomlgfjnjpebaaGreatDoor
