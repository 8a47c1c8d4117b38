/- Policy: each model is the truth of its function in the given program. Printed by a program of ours. -/
import Derived.Test.YtgbifohffmdgeaaDoorAmPk1
import Derived.Lib.AtoiErrMem
import Derived.Test.YtgbifohffmdgeaaDoorAmShelfD
import Derived.Test.YtgbifohffmdgeaaDoorAmIrPolDOk
import Derived.Test.YtgbifohffmdgeaaDoorChecked
set_option linter.all false
namespace Am.PolD
open Am Am.Pol Go Am.Ir Go.Proofs Go.RowKit
set_option maxRecDepth 100000

theorem mix : Tryd.prog.follows .mixedOrders = true := Checked.mixed Tryd.checked
theorem sx {fs : List FuncId} {l : List Model} (hl : SoundAll Tryd.prog fs l) {g : FuncId} {fn : Func} (hg : Tryd.prog.funcs[g]? = some fn) {h : Nat → Nat → Bool} {F : AFun}
    (hc : compF Tryd.prog fs h fn = some F) (k : Nat) : Sound Tryd.prog g (exM (orc l) F k) := Sound.ex hl mix hg hc k

theorem sIxB : Sound Tryd.prog 57 mIxB := fun W hW => SoundW.of ⟨_, Tryd.func57, by kernel_rfl, by kernel_rfl⟩ (fun args S v S' hm => by
  unfold mIxB at hm
  split at hm
  · cases hm
    refine ⟨rfl, fun κ w args' _ hr ha => ?_⟩
    obtain ⟨y, ys, rfl, h1, h2⟩ := ha.uncons
    obtain ⟨z, zs, rfl, h3, h4⟩ := h2.uncons
    have := h4.unnil; subst this
    obtain ⟨b, rfl, rfl⟩ := str_inv h1
    obtain rfl := int_inv h3
    refine (Tryd.stringslite_IndexByte b _ w).mono ?_
    rintro e w' ⟨rfl, rfl⟩
    exact ⟨_, rfl, .int _ _, below_refl w'⟩
  · cases hm) hW

theorem synN : (Tryd.prog.globalNamed "strconv.ErrSyntax").isSome = true := by kernel_rfl
theorem synNe : Tryd.prog.globalNamed "strconv.ErrSyntax" ≠ none := fun h => by have h2 := synN; rw [h] at h2; cases h2

theorem sAtoi : Sound Tryd.prog 28 mAtoi := fun W hW => SoundW.of ⟨_, Tryd.func28, by kernel_rfl, by kernel_rfl⟩ (fun args S v S' hm => by
  unfold mAtoi at hm
  split at hm
  · rename_i s
    split at hm
    · rename_i hs
      have sz : ∀ b : ByteArray, b.data.toList = s → b.size ≤ 1000 := fun b hb => by
        have e2 : b.size = b.data.toList.length := by simp
        rw [e2, hb]; exact hs
      cases hn : Lib.atoiAll s with
      | ok n =>
        simp only [hn] at hm
        cases hm
        refine ⟨rfl, fun κ w args' _ hr ha => ?_⟩
        obtain ⟨y, ys, rfl, h1, h2⟩ := ha.uncons
        have := h2.unnil; subst this
        obtain ⟨b, rfl, hb⟩ := str_inv h1
        have hz := sz b hb
        refine (Tryd.strconv_Atoi_ok b (by omega) n (by rw [hb]; exact hn) w).mono ?_
        rintro e w' ⟨rfl, h⟩
        refine ⟨_, rfl, .tup _ [_, _] rfl (fun j x y hx hy => ?_), ?_⟩
        · rcases j with _ | _ | j
          · cases hx; cases hy; exact .int _ _
          · cases hx; cases hy; exact .nili
          · simp at hx
        · rcases h with rfl | ⟨t, rfl⟩
          · exact below_refl _
          · exact Lib.bytesWorld_below _ _ _
      | range => simp only [hn] at hm; cases hm
      | _ =>
        simp only [hn] at hm
        cases hm
        refine ⟨rfl, fun κ w args' hW hr ha => ?_⟩
        obtain ⟨y, ys, rfl, h1, h2⟩ := ha.uncons
        have := h2.unnil; subst this
        obtain ⟨b, rfl, hb⟩ := str_inv h1
        have hz := sz b hb
        obtain ⟨t, p, hv⟩ := hW.ers "strconv.ErrSyntax" (by simp [wErrs]) synNe
        refine (Any.strconv_Atoi_syntax_var Tryd.laysC172 b (by omega) (by rw [hb]; exact hn) t p w hv).mono ?_
        rintro e w' ⟨N, rfl, _, _, h⟩
        refine ⟨_, rfl, .tup _ [_, _] rfl (fun j x y hx hy => ?_), h⟩
        rcases j with _ | _ | j
        · cases hx; cases hy; exact .int _ _
        · cases hx; exact .junk _
        · simp at hx
    · cases hm
  · cases hm) hW

theorem sCmp : Sound Tryd.prog 22 (xCmp) := sx (fs := []) (l := []) trivial Tryd.func22 policy_newest_1_ok 10
theorem sIns : Sound Tryd.prog 53 (xIns [(22, xCmp)]) := Sound.exD (fs := []) (l := []) (ds := [(22, xCmp)]) (is := []) trivial ⟨sCmp, trivial⟩ trivial mix Tryd.func53 slices_insertionSortCmpFunc_ok 1000
theorem sSwapR : Sound Tryd.prog 91 (xSwapRange) := sx (fs := []) (l := []) trivial Tryd.func91 slices_swapRangeCmpFunc_ok 1000
theorem sRotate : Sound Tryd.prog 75 (xRotate) := sx (fs := [91]) (l := [xSwapRange]) ⟨sSwapR, trivial⟩ Tryd.func75 slices_rotateCmpFunc_ok 1000
theorem sSym : ∀ F, Sound Tryd.prog 54 (xSym [(22, xCmp)] F)
  | 0 => Sound.none _ _
  | F + 1 => Sound.exD (fs := [75, 54]) (l := [xRotate, xSym [(22, xCmp)] F]) (ds := [(22, xCmp)]) (is := []) ⟨sRotate, sSym F, trivial⟩ ⟨sCmp, trivial⟩ trivial mix Tryd.func54 slices_symMergeCmpFunc_ok 1000
theorem sStable : Sound Tryd.prog 33 (xStable [(22, xCmp)]) := Sound.exD (fs := [53, 54]) (l := [xIns [(22, xCmp)], xSym [(22, xCmp)] 40]) (ds := [(22, xCmp)]) (is := []) ⟨sIns, sSym 40, trivial⟩ ⟨sCmp, trivial⟩ trivial mix Tryd.func33 slices_stableCmpFunc_ok 1000
theorem sSortSt : Sound Tryd.prog 21 (xSortStable [(22, xCmp)]) := Sound.exD (fs := [33]) (l := [xStable [(22, xCmp)]]) (ds := [(22, xCmp)]) (is := []) ⟨sStable, trivial⟩ ⟨sCmp, trivial⟩ trivial mix Tryd.func21 slices_SortStableFunc_ok 1000
theorem sNewest : Sound Tryd.prog 11 (xNewest 22) := sx (fs := [21]) (l := [xSortStable [(22, xCmp)]]) ⟨sSortSt, trivial⟩ Tryd.func11 policy_newest_ok 1000
theorem sWeek : Sound Tryd.prog 34 (xWeek) := sx (fs := []) (l := []) trivial Tryd.func34 clock_Week_ok 10
theorem sUp : Sound Tryd.prog 100 (xUp) := sx (fs := []) (l := []) trivial Tryd.func100 clock_leaps_1_ok 10
theorem sLeaps : Sound Tryd.prog 92 (xLeaps 100) := Sound.exD (fs := []) (l := []) (ds := [(100, xUp)]) (is := []) trivial ⟨sUp, trivial⟩ trivial mix Tryd.func92 clock_leaps_ok 10
theorem sYearDay : Sound Tryd.prog 76 (xYearDay 100) := sx (fs := [92]) (l := [xLeaps 100]) ⟨sLeaps, trivial⟩ Tryd.func76 clock_yearDay_ok 10
theorem sYearOf : Sound Tryd.prog 77 (xYearOf 100) := sx (fs := [76]) (l := [xYearDay 100]) ⟨sYearDay, trivial⟩ Tryd.func77 clock_yearOf_ok 1000
theorem sIsLeap : Sound Tryd.prog 93 (xIsLeap) := sx (fs := []) (l := []) trivial Tryd.func93 clock_isLeap_ok 10
theorem sDays : Sound Tryd.prog 78 (xDays) := sx (fs := [93]) (l := [xIsLeap]) ⟨sIsLeap, trivial⟩ Tryd.func78 clock_Days_ok 10
theorem sSplit : Sound Tryd.prog 55 (mSplit 100) := Sound.pure 3 (sx (fs := [76, 77, 78]) (l := [xYearDay 100, xYearOf 100, xDays]) ⟨sYearDay, sYearOf, sDays, trivial⟩ Tryd.func55 clock_Split_ok 1000)
theorem sMonth : Sound Tryd.prog 35 (mMonth 100) := Sound.pure 1 (sx (fs := [55]) (l := [mSplit 100]) ⟨sSplit, trivial⟩ Tryd.func35 policy_month_ok 10)
theorem sSlot : Sound Tryd.prog 23 (xSlot 100) := sx (fs := [34, 35]) (l := [xWeek, mMonth 100]) ⟨sWeek, sMonth, trivial⟩ Tryd.func23 policy_Slot_ok 10
theorem sMark : Sound Tryd.prog 12 (xMark 100) := sx (fs := [23]) (l := [xSlot 100]) ⟨sSlot, trivial⟩ Tryd.func12 policy_mark_ok 1000
theorem sKeep : Sound Tryd.prog 6 (xKeep 22 100) := sx (fs := [11, 12]) (l := [xNewest 22, xMark 100]) ⟨sNewest, sMark, trivial⟩ Tryd.func6 policy_Keep_ok 1000
theorem sIndexL : Sound Tryd.prog 39 (xIndexL) := sx (fs := [57, 58, 59, 60]) (l := [mIxB, noM, noM, noM]) ⟨sIxB, Sound.none _ _, Sound.none _ _, Sound.none _ _, trivial⟩ Tryd.func39 stringslite_Index_ok 10
theorem sIndex : Sound Tryd.prog 38 (xIndex) := sx (fs := [39]) (l := [xIndexL]) ⟨sIndexL, trivial⟩ Tryd.func38 strings_Index_ok 10
theorem sCutL : Sound Tryd.prog 25 (xCutL) := sx (fs := [39]) (l := [xIndexL]) ⟨sIndexL, trivial⟩ Tryd.func25 stringslite_Cut_ok 10
theorem sCut : Sound Tryd.prog 15 (xCut) := sx (fs := [25]) (l := [xCutL]) ⟨sCutL, trivial⟩ Tryd.func15 strings_Cut_ok 10
theorem sSpl0 : Sound Tryd.prog 24 (xSpl0 36) := sx (fs := []) (l := []) trivial Tryd.func24 strings_splitSeq_ok 10
theorem sSpl : Sound Tryd.prog 14 (xSpl 36) := sx (fs := [24]) (l := [xSpl0 36]) ⟨sSpl0, trivial⟩ Tryd.func14 strings_SplitSeq_ok 10
theorem sItSplit : SoundI Tryd.prog 36 itSplit := SoundI.ex (fs := [37, 38]) (l := [noM, xIndex]) ⟨Sound.none _ _, sIndex, trivial⟩ mix Tryd.func36 strings_splitSeq_1_ok 1000
theorem sParts : Sound Tryd.prog 13 (xParts) := sx (fs := []) (l := []) trivial Tryd.func13 policy_Policy_parts_ok 10
theorem sP1 : Sound Tryd.prog 17 (xP1) := sx (fs := []) (l := []) trivial Tryd.func17 policy_Parse_1_ok 10
theorem sIdxF : Sound Tryd.prog 16 (xIdxF 17) := Sound.exD (fs := []) (l := []) (ds := [(17, xP1)]) (is := []) trivial ⟨sP1, trivial⟩ trivial mix Tryd.func16 slices_IndexFunc_ok 1000
theorem sMkSet : Sound Tryd.prog 42 (mMkSet) := Sound.pure 3 (sx (fs := []) (l := []) trivial Tryd.func42 strings_makeASCIISet_ok 1000)
theorem sHas : Sound Tryd.prog 61 (xHas) := sx (fs := []) (l := []) trivial Tryd.func61 strings_asciiSet_contains_ok 10
theorem sTrR : Sound Tryd.prog 44 (xTrR) := sx (fs := [61]) (l := [xHas]) ⟨sHas, trivial⟩ Tryd.func44 strings_trimRightASCII_ok 1000
theorem sTrL : Sound Tryd.prog 43 (xTrL) := sx (fs := [61]) (l := [xHas]) ⟨sHas, trivial⟩ Tryd.func43 strings_trimLeftASCII_ok 1000
theorem sTrim : Sound Tryd.prog 26 (xTrim) := sx (fs := [41, 40, 42, 44, 43, 46, 45]) (l := [noM, noM, mMkSet, xTrR, xTrL, noM, noM]) ⟨Sound.none _ _, Sound.none _ _, sMkSet, sTrR, sTrL, Sound.none _ _, Sound.none _ _, trivial⟩ Tryd.func26 strings_Trim_ok 10
theorem sHasPL : Sound Tryd.prog 47 (xHasPL) := sx (fs := []) (l := []) trivial Tryd.func47 stringslite_HasPrefix_ok 10
theorem sHasP : Sound Tryd.prog 27 (xHasP) := sx (fs := [47]) (l := [xHasPL]) ⟨sHasPL, trivial⟩ Tryd.func27 strings_HasPrefix_ok 10
theorem sCount : Sound Tryd.prog 18 (mCount) := Sound.pure 2 (sx (fs := [26, 27, 28]) (l := [xTrim, xHasP, mAtoi]) ⟨sTrim, sHasP, sAtoi, trivial⟩ Tryd.func18 policy_count_ok 10)
theorem sParse : Sound Tryd.prog 8 (xParse 36 17) := Sound.exD (fs := [13, 14, 15, 16, 18]) (l := [xParts, xSpl 36, xCut, xIdxF 17, mCount]) (ds := []) (is := [(36, itSplit)]) ⟨sParts, sSpl, sCut, sIdxF, sCount, trivial⟩ trivial ⟨sItSplit, trivial⟩ mix Tryd.func8 policy_Parse_ok 1000
theorem sAlive : Sound Tryd.prog 5 (mAlive 22 100 36 17) := Sound.pure 1 (sx (fs := [6, 8]) (l := [xKeep 22 100, xParse 36 17]) ⟨sKeep, sParse, trivial⟩ Tryd.func5 l30_alive_ok 10)
theorem sDrop : Sound Tryd.prog 7 (xDrop 22 100) := sx (fs := [6]) (l := [xKeep 22 100]) ⟨sKeep, trivial⟩ Tryd.func7 policy_Drop_ok 1000
theorem sLawMore : Sound Tryd.prog 3 (xLawMore (mAlive 22 100 36 17) 22 100) := sx (fs := [5, 6, 7]) (l := [mAlive 22 100 36 17, xKeep 22 100, xDrop 22 100]) ⟨sAlive, sKeep, sDrop, trivial⟩ Tryd.func3 l30_PolicyMore_ok 1000
end Am.PolD
