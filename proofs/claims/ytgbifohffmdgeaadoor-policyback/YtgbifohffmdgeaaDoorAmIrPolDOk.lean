/- The printed code is the model's, translated. -/
import Derived.Test.YtgbifohffmdgeaaDoorAmIrPolD
import Derived.Test.YtgbifohffmdgeaaDoorProg
import Derived.KernelRfl
set_option linter.all false
namespace Am.Ir
open Am Go
set_option maxRecDepth 100000
theorem slices_insertionSortCmpFunc_ok : compF Go.Proofs.Tryd.prog [] (fun _ _ => false) Go.Proofs.Tryd.f53 = some slices_insertionSortCmpFunc := by kernel_rfl
theorem slices_swapRangeCmpFunc_ok : compF Go.Proofs.Tryd.prog [] (fun _ _ => false) Go.Proofs.Tryd.f91 = some slices_swapRangeCmpFunc := by kernel_rfl
theorem slices_rotateCmpFunc_ok : compF Go.Proofs.Tryd.prog [91] (fun _ _ => false) Go.Proofs.Tryd.f75 = some slices_rotateCmpFunc := by kernel_rfl
theorem slices_symMergeCmpFunc_ok : compF Go.Proofs.Tryd.prog [75, 54] (fun _ _ => false) Go.Proofs.Tryd.f54 = some slices_symMergeCmpFunc := by kernel_rfl
theorem slices_stableCmpFunc_ok : compF Go.Proofs.Tryd.prog [53, 54] (fun _ _ => false) Go.Proofs.Tryd.f33 = some slices_stableCmpFunc := by kernel_rfl
theorem slices_SortStableFunc_ok : compF Go.Proofs.Tryd.prog [33] (fun _ _ => false) Go.Proofs.Tryd.f21 = some slices_SortStableFunc := by kernel_rfl
theorem policy_newest_1_ok : compF Go.Proofs.Tryd.prog [] (fun _ _ => false) Go.Proofs.Tryd.f22 = some policy_newest_1 := by kernel_rfl
theorem policy_newest_ok : compF Go.Proofs.Tryd.prog [21] (fun _ _ => false) Go.Proofs.Tryd.f11 = some policy_newest := by kernel_rfl
theorem clock_Week_ok : compF Go.Proofs.Tryd.prog [] (fun _ _ => false) Go.Proofs.Tryd.f34 = some clock_Week := by kernel_rfl
theorem clock_leaps_1_ok : compF Go.Proofs.Tryd.prog [] (fun _ _ => false) Go.Proofs.Tryd.f100 = some clock_leaps_1 := by kernel_rfl
theorem clock_leaps_ok : compF Go.Proofs.Tryd.prog [] (fun _ _ => false) Go.Proofs.Tryd.f92 = some clock_leaps := by kernel_rfl
theorem clock_yearDay_ok : compF Go.Proofs.Tryd.prog [92] (fun _ _ => false) Go.Proofs.Tryd.f76 = some clock_yearDay := by kernel_rfl
theorem clock_yearOf_ok : compF Go.Proofs.Tryd.prog [76] (fun _ _ => false) Go.Proofs.Tryd.f77 = some clock_yearOf := by kernel_rfl
theorem clock_isLeap_ok : compF Go.Proofs.Tryd.prog [] (fun _ _ => false) Go.Proofs.Tryd.f93 = some clock_isLeap := by kernel_rfl
theorem clock_Days_ok : compF Go.Proofs.Tryd.prog [93] (fun _ _ => false) Go.Proofs.Tryd.f78 = some clock_Days := by kernel_rfl
theorem clock_Split_ok : compF Go.Proofs.Tryd.prog [76, 77, 78] (fun _ _ => false) Go.Proofs.Tryd.f55 = some clock_Split := by kernel_rfl
theorem policy_month_ok : compF Go.Proofs.Tryd.prog [55] (fun _ _ => false) Go.Proofs.Tryd.f35 = some policy_month := by kernel_rfl
theorem policy_Slot_ok : compF Go.Proofs.Tryd.prog [34, 35] (fun _ _ => false) Go.Proofs.Tryd.f23 = some policy_Slot := by kernel_rfl
theorem policy_mark_ok : compF Go.Proofs.Tryd.prog [23] (fun _ _ => false) Go.Proofs.Tryd.f12 = some policy_mark := by kernel_rfl
theorem policy_Keep_ok : compF Go.Proofs.Tryd.prog [11, 12] (fun _ _ => false) Go.Proofs.Tryd.f6 = some policy_Keep := by kernel_rfl
theorem policy_Policy_parts_ok : compF Go.Proofs.Tryd.prog [] (fun _ _ => false) Go.Proofs.Tryd.f13 = some policy_Policy_parts := by kernel_rfl
theorem utf8_decodeRuneInStringSlow_ok : compF Go.Proofs.Tryd.prog [] (fun _ _ => false) Go.Proofs.Tryd.f56 = some utf8_decodeRuneInStringSlow := by kernel_rfl
theorem utf8_DecodeRuneInString_ok : compF Go.Proofs.Tryd.prog [56] (fun _ _ => false) Go.Proofs.Tryd.f37 = some utf8_DecodeRuneInString := by kernel_rfl
theorem stringslite_IndexByte_ok : compF Go.Proofs.Tryd.prog [79] (fun _ _ => false) Go.Proofs.Tryd.f57 = some stringslite_IndexByte := by kernel_rfl
theorem bytealg_Cutover_ok : compF Go.Proofs.Tryd.prog [] (fun _ _ => false) Go.Proofs.Tryd.f59 = some bytealg_Cutover := by kernel_rfl
theorem bytealg_hashStr_ok : compF Go.Proofs.Tryd.prog [] (fun _ _ => false) Go.Proofs.Tryd.f80 = some bytealg_hashStr := by kernel_rfl
theorem bytealg_IndexRabinKarp_ok : compF Go.Proofs.Tryd.prog [80] (fun _ _ => false) Go.Proofs.Tryd.f60 = some bytealg_IndexRabinKarp := by kernel_rfl
theorem stringslite_Index_ok : compF Go.Proofs.Tryd.prog [57, 58, 59, 60] (fun _ _ => false) Go.Proofs.Tryd.f39 = some stringslite_Index := by kernel_rfl
theorem strings_Index_ok : compF Go.Proofs.Tryd.prog [39] (fun _ _ => false) Go.Proofs.Tryd.f38 = some strings_Index := by kernel_rfl
theorem strings_splitSeq_1_ok : compF Go.Proofs.Tryd.prog [37, 38] (fun _ _ => false) Go.Proofs.Tryd.f36 = some strings_splitSeq_1 := by kernel_rfl
theorem strings_splitSeq_ok : compF Go.Proofs.Tryd.prog [] (fun _ _ => false) Go.Proofs.Tryd.f24 = some strings_splitSeq := by kernel_rfl
theorem strings_SplitSeq_ok : compF Go.Proofs.Tryd.prog [24] (fun _ _ => false) Go.Proofs.Tryd.f14 = some strings_SplitSeq := by kernel_rfl
theorem stringslite_Cut_ok : compF Go.Proofs.Tryd.prog [39] (fun _ _ => false) Go.Proofs.Tryd.f25 = some stringslite_Cut := by kernel_rfl
theorem strings_Cut_ok : compF Go.Proofs.Tryd.prog [25] (fun _ _ => false) Go.Proofs.Tryd.f15 = some strings_Cut := by kernel_rfl
theorem slices_IndexFunc_ok : compF Go.Proofs.Tryd.prog [] (fun _ _ => false) Go.Proofs.Tryd.f16 = some slices_IndexFunc := by kernel_rfl
theorem strings_trimRightByte_ok : compF Go.Proofs.Tryd.prog [] (fun _ _ => false) Go.Proofs.Tryd.f41 = some strings_trimRightByte := by kernel_rfl
theorem strings_trimLeftByte_ok : compF Go.Proofs.Tryd.prog [] (fun _ _ => false) Go.Proofs.Tryd.f40 = some strings_trimLeftByte := by kernel_rfl
theorem strings_makeASCIISet_ok : compF Go.Proofs.Tryd.prog [] (fun _ _ => false) Go.Proofs.Tryd.f42 = some strings_makeASCIISet := by kernel_rfl
theorem strings_asciiSet_contains_ok : compF Go.Proofs.Tryd.prog [] (fun _ _ => false) Go.Proofs.Tryd.f61 = some strings_asciiSet_contains := by kernel_rfl
theorem strings_trimRightASCII_ok : compF Go.Proofs.Tryd.prog [61] (fun _ _ => false) Go.Proofs.Tryd.f44 = some strings_trimRightASCII := by kernel_rfl
theorem strings_trimLeftASCII_ok : compF Go.Proofs.Tryd.prog [61] (fun _ _ => false) Go.Proofs.Tryd.f43 = some strings_trimLeftASCII := by kernel_rfl
theorem utf8_RuneStart_ok : compF Go.Proofs.Tryd.prog [] (fun _ _ => false) Go.Proofs.Tryd.f82 = some utf8_RuneStart := by kernel_rfl
theorem utf8_DecodeLastRuneInString_ok : compF Go.Proofs.Tryd.prog [82, 37] (fun _ _ => false) Go.Proofs.Tryd.f63 = some utf8_DecodeLastRuneInString := by kernel_rfl
theorem strings_IndexByte_ok : compF Go.Proofs.Tryd.prog [57] (fun _ _ => false) Go.Proofs.Tryd.f94 = some strings_IndexByte := by kernel_rfl
theorem utf8_ValidRune_ok : compF Go.Proofs.Tryd.prog [] (fun _ _ => false) Go.Proofs.Tryd.f95 = some utf8_ValidRune := by kernel_rfl
theorem strings_ContainsRune_ok : compF Go.Proofs.Tryd.prog [81] (fun _ _ => false) Go.Proofs.Tryd.f62 = some strings_ContainsRune := by kernel_rfl
theorem strings_trimRightUnicode_ok : compF Go.Proofs.Tryd.prog [63, 62] (fun _ _ => false) Go.Proofs.Tryd.f46 = some strings_trimRightUnicode := by kernel_rfl
theorem strings_trimLeftUnicode_ok : compF Go.Proofs.Tryd.prog [37, 62] (fun _ _ => false) Go.Proofs.Tryd.f45 = some strings_trimLeftUnicode := by kernel_rfl
theorem strings_Trim_ok : compF Go.Proofs.Tryd.prog [41, 40, 42, 44, 43, 46, 45] (fun _ _ => false) Go.Proofs.Tryd.f26 = some strings_Trim := by kernel_rfl
theorem stringslite_HasPrefix_ok : compF Go.Proofs.Tryd.prog [] (fun _ _ => false) Go.Proofs.Tryd.f47 = some stringslite_HasPrefix := by kernel_rfl
theorem strings_HasPrefix_ok : compF Go.Proofs.Tryd.prog [47] (fun _ _ => false) Go.Proofs.Tryd.f27 = some strings_HasPrefix := by kernel_rfl
theorem strconv_lower_ok : compF Go.Proofs.Tryd.prog [] (fun _ _ => false) Go.Proofs.Tryd.f96 = some strconv_lower := by kernel_rfl
theorem strconv_underscoreOK_ok : compF Go.Proofs.Tryd.prog [96] (fun _ _ => false) Go.Proofs.Tryd.f97 = some strconv_underscoreOK := by kernel_rfl
theorem strconv_ParseUint_ok : compF Go.Proofs.Tryd.prog [96, 97] (fun _ _ => false) Go.Proofs.Tryd.f83 = some strconv_ParseUint := by kernel_rfl
theorem strconv_ParseInt_ok : compF Go.Proofs.Tryd.prog [83] (fun _ _ => false) Go.Proofs.Tryd.f64 = some strconv_ParseInt := by kernel_rfl
theorem strconv_Atoi_ok : compF Go.Proofs.Tryd.prog [64] (fun _ _ => false) Go.Proofs.Tryd.f48 = some strconv_Atoi := by kernel_rfl
theorem stringslite_Clone_ok : compF Go.Proofs.Tryd.prog [] (fun _ _ => false) Go.Proofs.Tryd.f84 = some stringslite_Clone := by kernel_rfl
theorem strconv_small_ok : compF Go.Proofs.Tryd.prog [] (fun _ _ => false) Go.Proofs.Tryd.f69 = some strconv_small := by kernel_rfl
theorem bits_Len64_ok : compF Go.Proofs.Tryd.prog [] (fun _ _ => false) Go.Proofs.Tryd.f87 = some bits_Len64 := by kernel_rfl
theorem strconv_log10Pow2_ok : compF Go.Proofs.Tryd.prog [] (fun _ _ => false) Go.Proofs.Tryd.f86 = some strconv_log10Pow2 := by kernel_rfl
theorem strconv_bool2_ok : compF Go.Proofs.Tryd.prog [] (fun _ _ => false) Go.Proofs.Tryd.f88 = some strconv_bool2 := by kernel_rfl
theorem strconv_numDigits_ok : compF Go.Proofs.Tryd.prog [87, 86, 88] (fun _ _ => false) Go.Proofs.Tryd.f70 = some strconv_numDigits := by kernel_rfl
theorem strconv_formatBase10_ok : compF Go.Proofs.Tryd.prog [] (fun _ _ => false) Go.Proofs.Tryd.f71 = some strconv_formatBase10 := by kernel_rfl
theorem strconv_isPowerOfTwo_ok : compF Go.Proofs.Tryd.prog [] (fun _ _ => false) Go.Proofs.Tryd.f89 = some strconv_isPowerOfTwo := by kernel_rfl
theorem bits_TrailingZeros32_ok : compF Go.Proofs.Tryd.prog [] (fun _ _ => false) Go.Proofs.Tryd.f98 = some bits_TrailingZeros32 := by kernel_rfl
theorem bits_TrailingZeros64_ok : compF Go.Proofs.Tryd.prog [] (fun _ _ => false) Go.Proofs.Tryd.f99 = some bits_TrailingZeros64 := by kernel_rfl
theorem bits_TrailingZeros_ok : compF Go.Proofs.Tryd.prog [98, 99] (fun _ _ => false) Go.Proofs.Tryd.f90 = some bits_TrailingZeros := by kernel_rfl
theorem strconv_formatBits_ok : compF Go.Proofs.Tryd.prog [89, 90] (fun _ _ => false) Go.Proofs.Tryd.f72 = some strconv_formatBits := by kernel_rfl
theorem strconv_FormatInt_ok : compF Go.Proofs.Tryd.prog [69, 70, 71, 72] (fun _ _ => false) Go.Proofs.Tryd.f50 = some strconv_FormatInt := by kernel_rfl
theorem strconv_Itoa_ok : compF Go.Proofs.Tryd.prog [50] (fun _ _ => false) Go.Proofs.Tryd.f29 = some strconv_Itoa := by kernel_rfl
theorem strconv_Itoa2_ok : compF Go.Proofs.Tryd.prog [29] (fun _ _ => false) Go.Proofs.Tryd.f19 = some strconv_Itoa2 := by kernel_rfl
theorem errors_New_ok : compF Go.Proofs.Tryd.prog [] (fun _ _ => false) Go.Proofs.Tryd.f85 = some errors_New := by kernel_rfl
theorem strconv_baseError_ok : compF Go.Proofs.Tryd.prog [84, 19, 85] (fun _ _ => false) Go.Proofs.Tryd.f67 = some strconv_baseError := by kernel_rfl
theorem strconv_bitSizeError_ok : compF Go.Proofs.Tryd.prog [84, 19, 85] (fun _ _ => false) Go.Proofs.Tryd.f68 = some strconv_bitSizeError := by kernel_rfl
theorem strconv_toError_ok : compF Go.Proofs.Tryd.prog [65, 66, 67, 68] (fun _ _ => false) Go.Proofs.Tryd.f49 = some strconv_toError := by kernel_rfl
theorem strconv_Atoi2_ok : compF Go.Proofs.Tryd.prog [48, 49] (fun _ _ => false) Go.Proofs.Tryd.f28 = some strconv_Atoi2 := by kernel_rfl
theorem policy_count_ok : compF Go.Proofs.Tryd.prog [26, 27, 28] (fun _ _ => false) Go.Proofs.Tryd.f18 = some policy_count := by kernel_rfl
theorem policy_Parse_1_ok : compF Go.Proofs.Tryd.prog [] (fun _ _ => false) Go.Proofs.Tryd.f17 = some policy_Parse_1 := by kernel_rfl
theorem policy_Parse_ok : compF Go.Proofs.Tryd.prog [13, 14, 15, 16, 18] (fun _ _ => false) Go.Proofs.Tryd.f8 = some policy_Parse := by kernel_rfl
theorem l30_alive_ok : compF Go.Proofs.Tryd.prog [6, 8] (fun _ _ => false) Go.Proofs.Tryd.f5 = some l30_alive := by kernel_rfl
theorem policy_Drop_ok : compF Go.Proofs.Tryd.prog [6] (fun _ _ => false) Go.Proofs.Tryd.f7 = some policy_Drop := by kernel_rfl
theorem l30_PolicyMore_ok : compF Go.Proofs.Tryd.prog [5, 6, 7] (fun _ _ => false) Go.Proofs.Tryd.f3 = some l30_PolicyMore := by kernel_rfl
theorem strings_Builder_grow_ok : compF Go.Proofs.Tryd.prog [74] (fun _ _ => false) Go.Proofs.Tryd.f52 = some strings_Builder_grow := by kernel_rfl
theorem strings_Builder_Grow_ok : compF Go.Proofs.Tryd.prog [51, 52] (fun _ _ => false) Go.Proofs.Tryd.f30 = some strings_Builder_Grow := by kernel_rfl
theorem strings_Builder_WriteString_ok : compF Go.Proofs.Tryd.prog [51] (fun _ _ => false) Go.Proofs.Tryd.f31 = some strings_Builder_WriteString := by kernel_rfl
theorem strings_Builder_String_ok : compF Go.Proofs.Tryd.prog [] (fun _ _ => false) Go.Proofs.Tryd.f32 = some strings_Builder_String := by kernel_rfl
theorem strings_Join_ok : compF Go.Proofs.Tryd.prog [30, 31, 32] (fun _ _ => false) Go.Proofs.Tryd.f20 = some strings_Join := by kernel_rfl
theorem policy_Text_ok : compF Go.Proofs.Tryd.prog [13, 19, 20] (fun _ _ => false) Go.Proofs.Tryd.f9 = some policy_Text := by kernel_rfl
theorem l30_isIn_ok : compF Go.Proofs.Tryd.prog [] (fun _ _ => false) Go.Proofs.Tryd.f10 = some l30_isIn := by kernel_rfl
theorem l30_PolicyBack_ok : compF Go.Proofs.Tryd.prog [5, 8, 9, 10] (fun _ _ => false) Go.Proofs.Tryd.f4 = some l30_PolicyBack := by kernel_rfl
end Am.Ir
