/- Policy: each model is the truth of its function in the given program. Printed by a program of ours. -/
import Derived.Test.YtgbifohffmdgeaaGreatDoorAmPk1
import Derived.Lib.AtoiErrMem
import Derived.Test.YtgbifohffmdgeaaGreatDoorAmIrPolXOk
import Derived.Test.YtgbifohffmdgeaaGreatDoorChecked
set_option linter.all false
namespace Am.PolZ
open Am Am.Pol Go Am.Ir Go.Proofs Go.RowKit
set_option maxRecDepth 100000

theorem mix : Tryz.prog.follows .mixedOrders = true := Checked.mixed Tryz.checked
theorem sx {fs : List FuncId} {l : List Model} (hl : SoundAll Tryz.prog fs l) {g : FuncId} {fn : Func} (hg : Tryz.prog.funcs[g]? = some fn) {h : Nat → Nat → Bool} {F : AFun}
    (hc : compF Tryz.prog fs h fn = some F) (k : Nat) : Sound Tryz.prog g (exM (orc l) F k) := Sound.ex hl mix hg hc k

theorem sIxB : Sound Tryz.prog 78 mIxB := fun W hW => SoundW.of ⟨_, Tryz.func78, by kernel_rfl, by kernel_rfl⟩ (fun args S v S' hm => by
  unfold mIxB at hm
  split at hm
  · cases hm
    refine ⟨rfl, fun κ w args' _ hr ha => ?_⟩
    obtain ⟨y, ys, rfl, h1, h2⟩ := ha.uncons
    obtain ⟨z, zs, rfl, h3, h4⟩ := h2.uncons
    have := h4.unnil; subst this
    obtain ⟨b, rfl, rfl⟩ := str_inv h1
    obtain rfl := int_inv h3
    refine (Tryz.stringslite_IndexByte b _ w).mono ?_
    rintro e w' ⟨rfl, rfl⟩
    exact ⟨_, rfl, .int _ _, below_refl w'⟩
  · cases hm) hW

theorem synN : (Tryz.prog.globalNamed "strconv.ErrSyntax").isSome = true := by kernel_rfl
theorem synNe : Tryz.prog.globalNamed "strconv.ErrSyntax" ≠ none := fun h => by have h2 := synN; rw [h] at h2; cases h2

theorem sAtoi : Sound Tryz.prog 47 mAtoi := fun W hW => SoundW.of ⟨_, Tryz.func47, by kernel_rfl, by kernel_rfl⟩ (fun args S v S' hm => by
  unfold mAtoi at hm
  split at hm
  · rename_i s
    split at hm
    · rename_i hs
      have sz : ∀ b : ByteArray, b.data.toList = s → b.size ≤ 1000 := fun b hb => by
        have e2 : b.size = b.data.toList.length := by simp
        rw [e2, hb]; exact hs
      cases hn : Lib.atoiAll s with
      | ok n =>
        simp only [hn] at hm
        cases hm
        refine ⟨rfl, fun κ w args' _ hr ha => ?_⟩
        obtain ⟨y, ys, rfl, h1, h2⟩ := ha.uncons
        have := h2.unnil; subst this
        obtain ⟨b, rfl, hb⟩ := str_inv h1
        have hz := sz b hb
        refine (Tryz.strconv_Atoi_ok b (by omega) n (by rw [hb]; exact hn) w).mono ?_
        rintro e w' ⟨rfl, h⟩
        refine ⟨_, rfl, .tup _ [_, _] rfl (fun j x y hx hy => ?_), ?_⟩
        · rcases j with _ | _ | j
          · cases hx; cases hy; exact .int _ _
          · cases hx; cases hy; exact .nili
          · simp at hx
        · rcases h with rfl | ⟨t, rfl⟩
          · exact below_refl _
          · exact Lib.bytesWorld_below _ _ _
      | range => simp only [hn] at hm; cases hm
      | _ =>
        simp only [hn] at hm
        cases hm
        refine ⟨rfl, fun κ w args' hW hr ha => ?_⟩
        obtain ⟨y, ys, rfl, h1, h2⟩ := ha.uncons
        have := h2.unnil; subst this
        obtain ⟨b, rfl, hb⟩ := str_inv h1
        have hz := sz b hb
        obtain ⟨t, p, hv⟩ := hW.ers "strconv.ErrSyntax" (by simp [wErrs]) synNe
        refine (Any.strconv_Atoi_syntax_var Tryz.laysC172 b (by omega) (by rw [hb]; exact hn) t p w hv).mono ?_
        rintro e w' ⟨N, rfl, _, _, h⟩
        refine ⟨_, rfl, .tup _ [_, _] rfl (fun j x y hx hy => ?_), h⟩
        rcases j with _ | _ | j
        · cases hx; cases hy; exact .int _ _
        · cases hx; exact .junk _
        · simp at hx
    · cases hm
  · cases hm) hW

theorem sCmp : Sound Tryz.prog 38 (xCmp) := sx (fs := []) (l := []) trivial Tryz.func38 policy_newest_1_ok 10
theorem sIns : Sound Tryz.prog 73 (xIns [(38, xCmp)]) := Sound.exD (fs := []) (l := []) (ds := [(38, xCmp)]) (is := []) trivial ⟨sCmp, trivial⟩ trivial mix Tryz.func73 slices_insertionSortCmpFunc_ok 1000
theorem sSwapR : Sound Tryz.prog 110 (xSwapRange) := sx (fs := []) (l := []) trivial Tryz.func110 slices_swapRangeCmpFunc_ok 1000
theorem sRotate : Sound Tryz.prog 96 (xRotate) := sx (fs := [110]) (l := [xSwapRange]) ⟨sSwapR, trivial⟩ Tryz.func96 slices_rotateCmpFunc_ok 1000
theorem sSym : ∀ F, Sound Tryz.prog 74 (xSym [(38, xCmp)] F)
  | 0 => Sound.none _ _
  | F + 1 => Sound.exD (fs := [96, 74]) (l := [xRotate, xSym [(38, xCmp)] F]) (ds := [(38, xCmp)]) (is := []) ⟨sRotate, sSym F, trivial⟩ ⟨sCmp, trivial⟩ trivial mix Tryz.func74 slices_symMergeCmpFunc_ok 1000
theorem sStable : Sound Tryz.prog 52 (xStable [(38, xCmp)]) := Sound.exD (fs := [73, 74]) (l := [xIns [(38, xCmp)], xSym [(38, xCmp)] 40]) (ds := [(38, xCmp)]) (is := []) ⟨sIns, sSym 40, trivial⟩ ⟨sCmp, trivial⟩ trivial mix Tryz.func52 slices_stableCmpFunc_ok 1000
theorem sSortSt : Sound Tryz.prog 37 (xSortStable [(38, xCmp)]) := Sound.exD (fs := [52]) (l := [xStable [(38, xCmp)]]) (ds := [(38, xCmp)]) (is := []) ⟨sStable, trivial⟩ ⟨sCmp, trivial⟩ trivial mix Tryz.func37 slices_SortStableFunc_ok 1000
theorem sNewest : Sound Tryz.prog 18 (xNewest 38) := sx (fs := [37]) (l := [xSortStable [(38, xCmp)]]) ⟨sSortSt, trivial⟩ Tryz.func18 policy_newestZ_ok 1000
theorem sWeek : Sound Tryz.prog 21 (xWeek) := sx (fs := []) (l := []) trivial Tryz.func21 clock_Week_ok 10
theorem sUp : Sound Tryz.prog 97 (xUp) := sx (fs := []) (l := []) trivial Tryz.func97 clock_leaps_1_ok 10
theorem sLeaps : Sound Tryz.prog 75 (xLeaps 97) := Sound.exD (fs := []) (l := []) (ds := [(97, xUp)]) (is := []) trivial ⟨sUp, trivial⟩ trivial mix Tryz.func75 clock_leapsZ_ok 10
theorem sYearDay : Sound Tryz.prog 53 (xYearDay 97) := sx (fs := [75]) (l := [xLeaps 97]) ⟨sLeaps, trivial⟩ Tryz.func53 clock_yearDay_ok 10
theorem sYearOf : Sound Tryz.prog 54 (xYearOf 97) := sx (fs := [53]) (l := [xYearDay 97]) ⟨sYearDay, trivial⟩ Tryz.func54 clock_yearOf_ok 1000
theorem sIsLeap : Sound Tryz.prog 76 (xIsLeap) := sx (fs := []) (l := []) trivial Tryz.func76 clock_isLeap_ok 10
theorem sDays : Sound Tryz.prog 55 (xDays) := sx (fs := [76]) (l := [xIsLeap]) ⟨sIsLeap, trivial⟩ Tryz.func55 clock_Days_ok 10
theorem sSplit : Sound Tryz.prog 41 (mSplit 97) := Sound.pure 3 (sx (fs := [53, 54, 55]) (l := [xYearDay 97, xYearOf 97, xDays]) ⟨sYearDay, sYearOf, sDays, trivial⟩ Tryz.func41 clock_Split_ok 1000)
theorem sMonth : Sound Tryz.prog 22 (mMonth 97) := Sound.pure 1 (sx (fs := [41]) (l := [mSplit 97]) ⟨sSplit, trivial⟩ Tryz.func22 policy_month_ok 10)
theorem sSlot : Sound Tryz.prog 9 (xSlot 97) := sx (fs := [21, 22]) (l := [xWeek, mMonth 97]) ⟨sWeek, sMonth, trivial⟩ Tryz.func9 policy_Slot_ok 10
theorem sMark : Sound Tryz.prog 19 (xMark 97) := sx (fs := [9]) (l := [xSlot 97]) ⟨sSlot, trivial⟩ Tryz.func19 policy_mark_ok 1000
theorem sKeep : Sound Tryz.prog 6 (xKeep 38 97) := sx (fs := [18, 19]) (l := [xNewest 38, xMark 97]) ⟨sNewest, sMark, trivial⟩ Tryz.func6 policy_Keep_ok 1000
theorem sIndexL : Sound Tryz.prog 59 (xIndexL) := sx (fs := [78, 79, 80, 81]) (l := [mIxB, noM, noM, noM]) ⟨sIxB, Sound.none _ _, Sound.none _ _, Sound.none _ _, trivial⟩ Tryz.func59 stringslite_Index_ok 10
theorem sIndex : Sound Tryz.prog 58 (xIndex) := sx (fs := [59]) (l := [xIndexL]) ⟨sIndexL, trivial⟩ Tryz.func58 strings_Index_ok 10
theorem sCutL : Sound Tryz.prog 44 (xCutL) := sx (fs := [59]) (l := [xIndexL]) ⟨sIndexL, trivial⟩ Tryz.func44 stringslite_Cut_ok 10
theorem sCut : Sound Tryz.prog 27 (xCut) := sx (fs := [44]) (l := [xCutL]) ⟨sCutL, trivial⟩ Tryz.func27 strings_Cut_ok 10
theorem sSpl0 : Sound Tryz.prog 43 (xSpl0 56) := sx (fs := []) (l := []) trivial Tryz.func43 strings_splitSeqZ_ok 10
theorem sSpl : Sound Tryz.prog 26 (xSpl 56) := sx (fs := [43]) (l := [xSpl0 56]) ⟨sSpl0, trivial⟩ Tryz.func26 strings_SplitSeq_ok 10
theorem sItSplit : SoundI Tryz.prog 56 itSplit := SoundI.ex (fs := [57, 58]) (l := [noM, xIndex]) ⟨Sound.none _ _, sIndex, trivial⟩ mix Tryz.func56 strings_splitSeq_1_ok 1000
theorem sParts : Sound Tryz.prog 25 (xParts) := sx (fs := []) (l := []) trivial Tryz.func25 policy_Policy_parts_ok 10
theorem sP1 : Sound Tryz.prog 29 (xP1) := sx (fs := []) (l := []) trivial Tryz.func29 policy_Parse_1_ok 10
theorem sIdxF : Sound Tryz.prog 28 (xIdxF 29) := Sound.exD (fs := []) (l := []) (ds := [(29, xP1)]) (is := []) trivial ⟨sP1, trivial⟩ trivial mix Tryz.func28 slices_IndexFunc_ok 1000
theorem sMkSet : Sound Tryz.prog 62 (mMkSet) := Sound.pure 3 (sx (fs := []) (l := []) trivial Tryz.func62 strings_makeASCIISet_ok 1000)
theorem sHas : Sound Tryz.prog 82 (xHas) := sx (fs := []) (l := []) trivial Tryz.func82 strings_asciiSet_contains_ok 10
theorem sTrR : Sound Tryz.prog 64 (xTrR) := sx (fs := [82]) (l := [xHas]) ⟨sHas, trivial⟩ Tryz.func64 strings_trimRightASCII_ok 1000
theorem sTrL : Sound Tryz.prog 63 (xTrL) := sx (fs := [82]) (l := [xHas]) ⟨sHas, trivial⟩ Tryz.func63 strings_trimLeftASCII_ok 1000
theorem sTrim : Sound Tryz.prog 45 (xTrim) := sx (fs := [61, 60, 62, 64, 63, 66, 65]) (l := [noM, noM, mMkSet, xTrR, xTrL, noM, noM]) ⟨Sound.none _ _, Sound.none _ _, sMkSet, sTrR, sTrL, Sound.none _ _, Sound.none _ _, trivial⟩ Tryz.func45 strings_Trim_ok 10
theorem sHasPL : Sound Tryz.prog 67 (xHasPL) := sx (fs := []) (l := []) trivial Tryz.func67 stringslite_HasPrefix_ok 10
theorem sHasP : Sound Tryz.prog 46 (xHasP) := sx (fs := [67]) (l := [xHasPL]) ⟨sHasPL, trivial⟩ Tryz.func46 strings_HasPrefix_ok 10
theorem sCount : Sound Tryz.prog 30 (mCount) := Sound.pure 2 (sx (fs := [45, 46, 47]) (l := [xTrim, xHasP, mAtoi]) ⟨sTrim, sHasP, sAtoi, trivial⟩ Tryz.func30 policy_count_ok 10)
theorem sParse : Sound Tryz.prog 14 (xParse 56 29) := Sound.exD (fs := [25, 26, 27, 28, 30]) (l := [xParts, xSpl 56, xCut, xIdxF 29, mCount]) (ds := []) (is := [(56, itSplit)]) ⟨sParts, sSpl, sCut, sIdxF, sCount, trivial⟩ trivial ⟨sItSplit, trivial⟩ mix Tryz.func14 policy_ParseZ_ok 1000
theorem sAlive : Sound Tryz.prog 5 (mAlive 38 97 56 29) := Sound.pure 1 (sx (fs := [6, 14]) (l := [xKeep 38 97, xParse 56 29]) ⟨sKeep, sParse, trivial⟩ Tryz.func5 l30_alive_ok 10)
theorem sDrop : Sound Tryz.prog 12 (xDrop 38 97) := sx (fs := [6]) (l := [xKeep 38 97]) ⟨sKeep, trivial⟩ Tryz.func12 policy_Drop_ok 1000
theorem sPlain : Sound Tryz.prog 8 (mPlain) := Sound.pure 3 (sx (fs := []) (l := []) trivial Tryz.func8 l30_plain_ok 10)
theorem sGreater : Sound Tryz.prog 39 (xGreater) := sx (fs := []) (l := []) trivial Tryz.func39 r30_greater_ok 10
theorem sWeek2 : Sound Tryz.prog 23 (xWeek) := sx (fs := []) (l := []) trivial Tryz.func23 r29_Week_ok 10
theorem sDays2 : Sound Tryz.prog 42 (xDays2) := sx (fs := []) (l := []) trivial Tryz.func42 r29_Days_ok 10
theorem sSplit2 : Sound Tryz.prog 24 (mSplit2) := Sound.pure 3 (sx (fs := [42]) (l := [xDays2]) ⟨sDays2, trivial⟩ Tryz.func24 r29_Split_ok 10000)
theorem sSlot2 : Sound Tryz.prog 10 (mSlot2) := Sound.pure 1 (sx (fs := [23, 24]) (l := [xWeek, mSplit2]) ⟨sWeek2, sSplit2, trivial⟩ Tryz.func10 r30_Slot_ok 10)
theorem sBehind : Sound Tryz.prog 40 (xBehind) := sx (fs := [10, 39]) (l := [mSlot2, xGreater]) ⟨sSlot2, sGreater, trivial⟩ Tryz.func40 r30_behind_ok 1000
theorem sStays : Sound Tryz.prog 20 (xStays) := sx (fs := [39, 40]) (l := [xGreater, xBehind]) ⟨sGreater, sBehind, trivial⟩ Tryz.func20 r30_stays_ok 1000
theorem sKeep2 : Sound Tryz.prog 7 (xKeep2) := sx (fs := [20]) (l := [xStays]) ⟨sStays, trivial⟩ Tryz.func7 r30_Keep_ok 1000
theorem sDrop2 : Sound Tryz.prog 13 (xDrop2) := sx (fs := [20]) (l := [xStays]) ⟨sStays, trivial⟩ Tryz.func13 r30_Drop_ok 1000
theorem sSame : Sound Tryz.prog 11 (xSame) := sx (fs := []) (l := []) trivial Tryz.func11 r09_SameInts_ok 1000
theorem sLawKeep : Sound Tryz.prog 3 (xLawKeep (mAlive 38 97 56 29) 38 97) := sx (fs := [5, 6, 8, 7, 9, 10, 12, 13, 11]) (l := [mAlive 38 97 56 29, xKeep 38 97, mPlain, xKeep2, xSlot 97, mSlot2, xDrop 38 97, xDrop2, xSame]) ⟨sAlive, sKeep, sPlain, sKeep2, sSlot, sSlot2, sDrop, sDrop2, sSame, trivial⟩ Tryz.func3 l30_PolicyKeep_ok 1000
end Am.PolZ
