/- The printed code is the model's, translated. -/
import Derived.Test.YtgbifohffmdgeaaGreatDoorAmIrPolX
import Derived.Test.YtgbifohffmdgeaaGreatDoorProg
import Derived.KernelRfl
set_option linter.all false
namespace Am.Ir
open Am Go
set_option maxRecDepth 100000
theorem slices_insertionSortCmpFunc_ok : compF Go.Proofs.Tryz.prog [] (fun _ _ => false) Go.Proofs.Tryz.f73 = some slices_insertionSortCmpFunc := by kernel_rfl
theorem slices_swapRangeCmpFunc_ok : compF Go.Proofs.Tryz.prog [] (fun _ _ => false) Go.Proofs.Tryz.f110 = some slices_swapRangeCmpFunc := by kernel_rfl
theorem slices_rotateCmpFunc_ok : compF Go.Proofs.Tryz.prog [110] (fun _ _ => false) Go.Proofs.Tryz.f96 = some slices_rotateCmpFunc := by kernel_rfl
theorem slices_symMergeCmpFunc_ok : compF Go.Proofs.Tryz.prog [96, 74] (fun _ _ => false) Go.Proofs.Tryz.f74 = some slices_symMergeCmpFunc := by kernel_rfl
theorem slices_stableCmpFunc_ok : compF Go.Proofs.Tryz.prog [73, 74] (fun _ _ => false) Go.Proofs.Tryz.f52 = some slices_stableCmpFunc := by kernel_rfl
theorem slices_SortStableFunc_ok : compF Go.Proofs.Tryz.prog [52] (fun _ _ => false) Go.Proofs.Tryz.f37 = some slices_SortStableFunc := by kernel_rfl
theorem policy_newest_1_ok : compF Go.Proofs.Tryz.prog [] (fun _ _ => false) Go.Proofs.Tryz.f38 = some policy_newest_1 := by kernel_rfl
theorem policy_newestZ_ok : compF Go.Proofs.Tryz.prog [37] (fun _ _ => false) Go.Proofs.Tryz.f18 = some policy_newestZ := by kernel_rfl
theorem clock_Week_ok : compF Go.Proofs.Tryz.prog [] (fun _ _ => false) Go.Proofs.Tryz.f21 = some clock_Week := by kernel_rfl
theorem clock_leaps_1_ok : compF Go.Proofs.Tryz.prog [] (fun _ _ => false) Go.Proofs.Tryz.f97 = some clock_leaps_1 := by kernel_rfl
theorem clock_leapsZ_ok : compF Go.Proofs.Tryz.prog [] (fun _ _ => false) Go.Proofs.Tryz.f75 = some clock_leapsZ := by kernel_rfl
theorem clock_yearDay_ok : compF Go.Proofs.Tryz.prog [75] (fun _ _ => false) Go.Proofs.Tryz.f53 = some clock_yearDay := by kernel_rfl
theorem clock_yearOf_ok : compF Go.Proofs.Tryz.prog [53] (fun _ _ => false) Go.Proofs.Tryz.f54 = some clock_yearOf := by kernel_rfl
theorem clock_isLeap_ok : compF Go.Proofs.Tryz.prog [] (fun _ _ => false) Go.Proofs.Tryz.f76 = some clock_isLeap := by kernel_rfl
theorem clock_Days_ok : compF Go.Proofs.Tryz.prog [76] (fun _ _ => false) Go.Proofs.Tryz.f55 = some clock_Days := by kernel_rfl
theorem clock_Split_ok : compF Go.Proofs.Tryz.prog [53, 54, 55] (fun _ _ => false) Go.Proofs.Tryz.f41 = some clock_Split := by kernel_rfl
theorem policy_month_ok : compF Go.Proofs.Tryz.prog [41] (fun _ _ => false) Go.Proofs.Tryz.f22 = some policy_month := by kernel_rfl
theorem policy_Slot_ok : compF Go.Proofs.Tryz.prog [21, 22] (fun _ _ => false) Go.Proofs.Tryz.f9 = some policy_Slot := by kernel_rfl
theorem policy_mark_ok : compF Go.Proofs.Tryz.prog [9] (fun _ _ => false) Go.Proofs.Tryz.f19 = some policy_mark := by kernel_rfl
theorem policy_Keep_ok : compF Go.Proofs.Tryz.prog [18, 19] (fun _ _ => false) Go.Proofs.Tryz.f6 = some policy_Keep := by kernel_rfl
theorem policy_Policy_parts_ok : compF Go.Proofs.Tryz.prog [] (fun _ _ => false) Go.Proofs.Tryz.f25 = some policy_Policy_parts := by kernel_rfl
theorem utf8_decodeRuneInStringSlow_ok : compF Go.Proofs.Tryz.prog [] (fun _ _ => false) Go.Proofs.Tryz.f77 = some utf8_decodeRuneInStringSlow := by kernel_rfl
theorem utf8_DecodeRuneInString_ok : compF Go.Proofs.Tryz.prog [77] (fun _ _ => false) Go.Proofs.Tryz.f57 = some utf8_DecodeRuneInString := by kernel_rfl
theorem stringslite_IndexByte_ok : compF Go.Proofs.Tryz.prog [98] (fun _ _ => false) Go.Proofs.Tryz.f78 = some stringslite_IndexByte := by kernel_rfl
theorem bytealg_Cutover_ok : compF Go.Proofs.Tryz.prog [] (fun _ _ => false) Go.Proofs.Tryz.f80 = some bytealg_Cutover := by kernel_rfl
theorem bytealg_hashStr_ok : compF Go.Proofs.Tryz.prog [] (fun _ _ => false) Go.Proofs.Tryz.f99 = some bytealg_hashStr := by kernel_rfl
theorem bytealg_IndexRabinKarp_ok : compF Go.Proofs.Tryz.prog [99] (fun _ _ => false) Go.Proofs.Tryz.f81 = some bytealg_IndexRabinKarp := by kernel_rfl
theorem stringslite_Index_ok : compF Go.Proofs.Tryz.prog [78, 79, 80, 81] (fun _ _ => false) Go.Proofs.Tryz.f59 = some stringslite_Index := by kernel_rfl
theorem strings_Index_ok : compF Go.Proofs.Tryz.prog [59] (fun _ _ => false) Go.Proofs.Tryz.f58 = some strings_Index := by kernel_rfl
theorem strings_splitSeq_1_ok : compF Go.Proofs.Tryz.prog [57, 58] (fun _ _ => false) Go.Proofs.Tryz.f56 = some strings_splitSeq_1 := by kernel_rfl
theorem strings_splitSeqZ_ok : compF Go.Proofs.Tryz.prog [] (fun _ _ => false) Go.Proofs.Tryz.f43 = some strings_splitSeqZ := by kernel_rfl
theorem strings_SplitSeq_ok : compF Go.Proofs.Tryz.prog [43] (fun _ _ => false) Go.Proofs.Tryz.f26 = some strings_SplitSeq := by kernel_rfl
theorem stringslite_Cut_ok : compF Go.Proofs.Tryz.prog [59] (fun _ _ => false) Go.Proofs.Tryz.f44 = some stringslite_Cut := by kernel_rfl
theorem strings_Cut_ok : compF Go.Proofs.Tryz.prog [44] (fun _ _ => false) Go.Proofs.Tryz.f27 = some strings_Cut := by kernel_rfl
theorem slices_IndexFunc_ok : compF Go.Proofs.Tryz.prog [] (fun _ _ => false) Go.Proofs.Tryz.f28 = some slices_IndexFunc := by kernel_rfl
theorem strings_trimRightByte_ok : compF Go.Proofs.Tryz.prog [] (fun _ _ => false) Go.Proofs.Tryz.f61 = some strings_trimRightByte := by kernel_rfl
theorem strings_trimLeftByte_ok : compF Go.Proofs.Tryz.prog [] (fun _ _ => false) Go.Proofs.Tryz.f60 = some strings_trimLeftByte := by kernel_rfl
theorem strings_makeASCIISet_ok : compF Go.Proofs.Tryz.prog [] (fun _ _ => false) Go.Proofs.Tryz.f62 = some strings_makeASCIISet := by kernel_rfl
theorem strings_asciiSet_contains_ok : compF Go.Proofs.Tryz.prog [] (fun _ _ => false) Go.Proofs.Tryz.f82 = some strings_asciiSet_contains := by kernel_rfl
theorem strings_trimRightASCII_ok : compF Go.Proofs.Tryz.prog [82] (fun _ _ => false) Go.Proofs.Tryz.f64 = some strings_trimRightASCII := by kernel_rfl
theorem strings_trimLeftASCII_ok : compF Go.Proofs.Tryz.prog [82] (fun _ _ => false) Go.Proofs.Tryz.f63 = some strings_trimLeftASCII := by kernel_rfl
theorem utf8_RuneStart_ok : compF Go.Proofs.Tryz.prog [] (fun _ _ => false) Go.Proofs.Tryz.f101 = some utf8_RuneStart := by kernel_rfl
theorem utf8_DecodeLastRuneInString_ok : compF Go.Proofs.Tryz.prog [101, 57] (fun _ _ => false) Go.Proofs.Tryz.f84 = some utf8_DecodeLastRuneInString := by kernel_rfl
theorem strings_IndexByte_ok : compF Go.Proofs.Tryz.prog [78] (fun _ _ => false) Go.Proofs.Tryz.f111 = some strings_IndexByte := by kernel_rfl
theorem utf8_ValidRune_ok : compF Go.Proofs.Tryz.prog [] (fun _ _ => false) Go.Proofs.Tryz.f112 = some utf8_ValidRune := by kernel_rfl
theorem strings_ContainsRune_ok : compF Go.Proofs.Tryz.prog [100] (fun _ _ => false) Go.Proofs.Tryz.f83 = some strings_ContainsRune := by kernel_rfl
theorem strings_trimRightUnicode_ok : compF Go.Proofs.Tryz.prog [84, 83] (fun _ _ => false) Go.Proofs.Tryz.f66 = some strings_trimRightUnicode := by kernel_rfl
theorem strings_trimLeftUnicode_ok : compF Go.Proofs.Tryz.prog [57, 83] (fun _ _ => false) Go.Proofs.Tryz.f65 = some strings_trimLeftUnicode := by kernel_rfl
theorem strings_Trim_ok : compF Go.Proofs.Tryz.prog [61, 60, 62, 64, 63, 66, 65] (fun _ _ => false) Go.Proofs.Tryz.f45 = some strings_Trim := by kernel_rfl
theorem stringslite_HasPrefix_ok : compF Go.Proofs.Tryz.prog [] (fun _ _ => false) Go.Proofs.Tryz.f67 = some stringslite_HasPrefix := by kernel_rfl
theorem strings_HasPrefix_ok : compF Go.Proofs.Tryz.prog [67] (fun _ _ => false) Go.Proofs.Tryz.f46 = some strings_HasPrefix := by kernel_rfl
theorem strconv_lower_ok : compF Go.Proofs.Tryz.prog [] (fun _ _ => false) Go.Proofs.Tryz.f113 = some strconv_lower := by kernel_rfl
theorem strconv_underscoreOK_ok : compF Go.Proofs.Tryz.prog [113] (fun _ _ => false) Go.Proofs.Tryz.f114 = some strconv_underscoreOK := by kernel_rfl
theorem strconv_ParseUintZ_ok : compF Go.Proofs.Tryz.prog [113, 114] (fun _ _ => false) Go.Proofs.Tryz.f102 = some strconv_ParseUintZ := by kernel_rfl
theorem strconv_ParseIntZ_ok : compF Go.Proofs.Tryz.prog [102] (fun _ _ => false) Go.Proofs.Tryz.f85 = some strconv_ParseIntZ := by kernel_rfl
theorem strconv_AtoiZ_ok : compF Go.Proofs.Tryz.prog [85] (fun _ _ => false) Go.Proofs.Tryz.f68 = some strconv_AtoiZ := by kernel_rfl
theorem stringslite_Clone_ok : compF Go.Proofs.Tryz.prog [] (fun _ _ => false) Go.Proofs.Tryz.f103 = some stringslite_Clone := by kernel_rfl
theorem strconv_small_ok : compF Go.Proofs.Tryz.prog [] (fun _ _ => false) Go.Proofs.Tryz.f90 = some strconv_small := by kernel_rfl
theorem bits_Len64_ok : compF Go.Proofs.Tryz.prog [] (fun _ _ => false) Go.Proofs.Tryz.f106 = some bits_Len64 := by kernel_rfl
theorem strconv_log10Pow2_ok : compF Go.Proofs.Tryz.prog [] (fun _ _ => false) Go.Proofs.Tryz.f105 = some strconv_log10Pow2 := by kernel_rfl
theorem strconv_bool2_ok : compF Go.Proofs.Tryz.prog [] (fun _ _ => false) Go.Proofs.Tryz.f107 = some strconv_bool2 := by kernel_rfl
theorem strconv_numDigits_ok : compF Go.Proofs.Tryz.prog [106, 105, 107] (fun _ _ => false) Go.Proofs.Tryz.f91 = some strconv_numDigits := by kernel_rfl
theorem strconv_formatBase10_ok : compF Go.Proofs.Tryz.prog [] (fun _ _ => false) Go.Proofs.Tryz.f92 = some strconv_formatBase10 := by kernel_rfl
theorem strconv_isPowerOfTwo_ok : compF Go.Proofs.Tryz.prog [] (fun _ _ => false) Go.Proofs.Tryz.f108 = some strconv_isPowerOfTwo := by kernel_rfl
theorem bits_TrailingZeros32_ok : compF Go.Proofs.Tryz.prog [] (fun _ _ => false) Go.Proofs.Tryz.f115 = some bits_TrailingZeros32 := by kernel_rfl
theorem bits_TrailingZeros64_ok : compF Go.Proofs.Tryz.prog [] (fun _ _ => false) Go.Proofs.Tryz.f116 = some bits_TrailingZeros64 := by kernel_rfl
theorem bits_TrailingZeros_ok : compF Go.Proofs.Tryz.prog [115, 116] (fun _ _ => false) Go.Proofs.Tryz.f109 = some bits_TrailingZeros := by kernel_rfl
theorem strconv_formatBits_ok : compF Go.Proofs.Tryz.prog [108, 109] (fun _ _ => false) Go.Proofs.Tryz.f93 = some strconv_formatBits := by kernel_rfl
theorem strconv_FormatInt_ok : compF Go.Proofs.Tryz.prog [90, 91, 92, 93] (fun _ _ => false) Go.Proofs.Tryz.f70 = some strconv_FormatInt := by kernel_rfl
theorem strconv_Itoa_ok : compF Go.Proofs.Tryz.prog [70] (fun _ _ => false) Go.Proofs.Tryz.f48 = some strconv_Itoa := by kernel_rfl
theorem strconv_Itoa2_ok : compF Go.Proofs.Tryz.prog [48] (fun _ _ => false) Go.Proofs.Tryz.f34 = some strconv_Itoa2 := by kernel_rfl
theorem errors_NewZ_ok : compF Go.Proofs.Tryz.prog [] (fun _ _ => false) Go.Proofs.Tryz.f104 = some errors_NewZ := by kernel_rfl
theorem strconv_baseError_ok : compF Go.Proofs.Tryz.prog [103, 34, 104] (fun _ _ => false) Go.Proofs.Tryz.f88 = some strconv_baseError := by kernel_rfl
theorem strconv_bitSizeError_ok : compF Go.Proofs.Tryz.prog [103, 34, 104] (fun _ _ => false) Go.Proofs.Tryz.f89 = some strconv_bitSizeError := by kernel_rfl
theorem strconv_toErrorZ_ok : compF Go.Proofs.Tryz.prog [86, 87, 88, 89] (fun _ _ => false) Go.Proofs.Tryz.f69 = some strconv_toErrorZ := by kernel_rfl
theorem strconv_Atoi2_ok : compF Go.Proofs.Tryz.prog [68, 69] (fun _ _ => false) Go.Proofs.Tryz.f47 = some strconv_Atoi2 := by kernel_rfl
theorem policy_count_ok : compF Go.Proofs.Tryz.prog [45, 46, 47] (fun _ _ => false) Go.Proofs.Tryz.f30 = some policy_count := by kernel_rfl
theorem policy_Parse_1_ok : compF Go.Proofs.Tryz.prog [] (fun _ _ => false) Go.Proofs.Tryz.f29 = some policy_Parse_1 := by kernel_rfl
theorem policy_ParseZ_ok : compF Go.Proofs.Tryz.prog [25, 26, 27, 28, 30] (fun _ _ => false) Go.Proofs.Tryz.f14 = some policy_ParseZ := by kernel_rfl
theorem l30_alive_ok : compF Go.Proofs.Tryz.prog [6, 14] (fun _ _ => false) Go.Proofs.Tryz.f5 = some l30_alive := by kernel_rfl
theorem l30_plain_ok : compF Go.Proofs.Tryz.prog [] (fun _ _ => false) Go.Proofs.Tryz.f8 = some l30_plain := by kernel_rfl
theorem r30_greater_ok : compF Go.Proofs.Tryz.prog [] (fun _ _ => false) Go.Proofs.Tryz.f39 = some r30_greater := by kernel_rfl
theorem r29_Week_ok : compF Go.Proofs.Tryz.prog [] (fun _ _ => false) Go.Proofs.Tryz.f23 = some r29_Week := by kernel_rfl
theorem r29_Days_ok : compF Go.Proofs.Tryz.prog [] (fun _ _ => false) Go.Proofs.Tryz.f42 = some r29_Days := by kernel_rfl
theorem r29_Split_ok : compF Go.Proofs.Tryz.prog [42] (fun _ _ => false) Go.Proofs.Tryz.f24 = some r29_Split := by kernel_rfl
theorem r30_Slot_ok : compF Go.Proofs.Tryz.prog [23, 24] (fun _ _ => false) Go.Proofs.Tryz.f10 = some r30_Slot := by kernel_rfl
theorem r30_behind_ok : compF Go.Proofs.Tryz.prog [10, 39] (fun _ _ => false) Go.Proofs.Tryz.f40 = some r30_behind := by kernel_rfl
theorem r30_stays_ok : compF Go.Proofs.Tryz.prog [39, 40] (fun _ _ => false) Go.Proofs.Tryz.f20 = some r30_stays := by kernel_rfl
theorem r30_Keep_ok : compF Go.Proofs.Tryz.prog [20] (fun _ _ => false) Go.Proofs.Tryz.f7 = some r30_Keep := by kernel_rfl
theorem policy_Drop_ok : compF Go.Proofs.Tryz.prog [6] (fun _ _ => false) Go.Proofs.Tryz.f12 = some policy_Drop := by kernel_rfl
theorem r30_Drop_ok : compF Go.Proofs.Tryz.prog [20] (fun _ _ => false) Go.Proofs.Tryz.f13 = some r30_Drop := by kernel_rfl
theorem r09_SameInts_ok : compF Go.Proofs.Tryz.prog [] (fun _ _ => false) Go.Proofs.Tryz.f11 = some r09_SameInts := by kernel_rfl
theorem l30_PolicyKeep_ok : compF Go.Proofs.Tryz.prog [5, 6, 8, 7, 9, 10, 12, 13, 11] (fun _ _ => false) Go.Proofs.Tryz.f3 = some l30_PolicyKeep := by kernel_rfl
theorem r30_cut_ok : compF Go.Proofs.Tryz.prog [] (fun _ _ => false) Go.Proofs.Tryz.f31 = some r30_cut := by kernel_rfl
theorem r30_names_ok : compF Go.Proofs.Tryz.prog [] (fun _ _ => false) Go.Proofs.Tryz.f32 = some r30_names := by kernel_rfl
theorem r30_count_ok : compF Go.Proofs.Tryz.prog [] (fun _ _ => false) Go.Proofs.Tryz.f33 = some r30_count := by kernel_rfl
theorem r30_Parse_ok : compF Go.Proofs.Tryz.prog [31, 32, 33] (fun _ _ => false) Go.Proofs.Tryz.f15 = some r30_Parse := by kernel_rfl
theorem strings_Builder_grow_ok : compF Go.Proofs.Tryz.prog [95] (fun _ _ => false) Go.Proofs.Tryz.f72 = some strings_Builder_grow := by kernel_rfl
theorem strings_Builder_Grow_ok : compF Go.Proofs.Tryz.prog [71, 72] (fun _ _ => false) Go.Proofs.Tryz.f49 = some strings_Builder_Grow := by kernel_rfl
theorem strings_Builder_WriteString_ok : compF Go.Proofs.Tryz.prog [71] (fun _ _ => false) Go.Proofs.Tryz.f50 = some strings_Builder_WriteString := by kernel_rfl
theorem strings_Builder_String_ok : compF Go.Proofs.Tryz.prog [] (fun _ _ => false) Go.Proofs.Tryz.f51 = some strings_Builder_String := by kernel_rfl
theorem strings_Join_ok : compF Go.Proofs.Tryz.prog [49, 50, 51] (fun _ _ => false) Go.Proofs.Tryz.f35 = some strings_Join := by kernel_rfl
theorem policy_Text_ok : compF Go.Proofs.Tryz.prog [25, 34, 35] (fun _ _ => false) Go.Proofs.Tryz.f16 = some policy_Text := by kernel_rfl
theorem r30_decimal_ok : compF Go.Proofs.Tryz.prog [] (fun _ _ => false) Go.Proofs.Tryz.f36 = some r30_decimal := by kernel_rfl
theorem r30_Text_ok : compF Go.Proofs.Tryz.prog [32, 36] (fun _ _ => false) Go.Proofs.Tryz.f17 = some r30_Text := by kernel_rfl
theorem l30_PolicyText_ok : compF Go.Proofs.Tryz.prog [5, 14, 15, 16, 8, 17] (fun _ _ => false) Go.Proofs.Tryz.f4 = some l30_PolicyText := by kernel_rfl
end Am.Ir
