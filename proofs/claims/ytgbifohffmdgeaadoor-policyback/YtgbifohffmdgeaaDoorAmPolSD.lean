import Derived.Test.YtgbifohffmdgeaaDoorAmPk1
import Derived.Lib.AtoiErrMem
import Derived.Test.YtgbifohffmdgeaaDoorAmShelfD
import Derived.Test.YtgbifohffmdgeaaDoorAmIrPolDOk
import Derived.Test.YtgbifohffmdgeaaDoorChecked
import Derived.KernelRfl
set_option linter.all false
/- Policy: each model is the truth of its function in the given program. Printed by a program of ours. -/
section
namespace Am.PolD
open Am Am.Pol Go Am.Ir Go.Proofs Go.RowKit
set_option maxRecDepth 100000

theorem mix : Tryd.prog.follows .mixedOrders = true := Checked.mixed Tryd.checked
theorem sx {fs : List FuncId} {l : List Model} (hl : SoundAll Tryd.prog fs l) {g : FuncId} {fn : Func} (hg : Tryd.prog.funcs[g]? = some fn) {h : Nat → Nat → Bool} {F : AFun}
    (hc : compF Tryd.prog fs h fn = some F) (k : Nat) : Sound Tryd.prog g (exM (orc l) F k) := Sound.ex hl mix hg hc k

theorem sIxB : Sound Tryd.prog 57 mIxB := fun W hW => SoundW.of ⟨_, Tryd.func57, by kernel_rfl, by kernel_rfl⟩ (fun args S v S' hm => by
  unfold mIxB at hm
  split at hm
  · cases hm
    refine ⟨rfl, fun κ w args' _ hr ha => ?_⟩
    obtain ⟨y, ys, rfl, h1, h2⟩ := ha.uncons
    obtain ⟨z, zs, rfl, h3, h4⟩ := h2.uncons
    have := h4.unnil; subst this
    obtain ⟨b, rfl, rfl⟩ := str_inv h1
    obtain rfl := int_inv h3
    refine (Tryd.stringslite_IndexByte b _ w).mono ?_
    rintro e w' ⟨rfl, rfl⟩
    exact ⟨_, rfl, .int _ _, below_refl w'⟩
  · cases hm) hW

theorem synN : (Tryd.prog.globalNamed "strconv.ErrSyntax").isSome = true := by kernel_rfl
theorem synNe : Tryd.prog.globalNamed "strconv.ErrSyntax" ≠ none := fun h => by have h2 := synN; rw [h] at h2; cases h2

theorem sAtoi : Sound Tryd.prog 28 mAtoi := fun W hW => SoundW.of ⟨_, Tryd.func28, by kernel_rfl, by kernel_rfl⟩ (fun args S v S' hm => by
  unfold mAtoi at hm
  split at hm
  · rename_i s
    split at hm
    · rename_i hs
      have sz : ∀ b : ByteArray, b.data.toList = s → b.size ≤ 1000 := fun b hb => by
        have e2 : b.size = b.data.toList.length := by simp
        rw [e2, hb]; exact hs
      cases hn : Lib.atoiAll s with
      | ok n =>
        simp only [hn] at hm
        cases hm
        refine ⟨rfl, fun κ w args' _ hr ha => ?_⟩
        obtain ⟨y, ys, rfl, h1, h2⟩ := ha.uncons
        have := h2.unnil; subst this
        obtain ⟨b, rfl, hb⟩ := str_inv h1
        have hz := sz b hb
        refine (Tryd.strconv_Atoi_ok b (by omega) n (by rw [hb]; exact hn) w).mono ?_
        rintro e w' ⟨rfl, h⟩
        refine ⟨_, rfl, .tup _ [_, _] rfl (fun j x y hx hy => ?_), ?_⟩
        · rcases j with _ | _ | j
          · cases hx; cases hy; exact .int _ _
          · cases hx; cases hy; exact .nili
          · simp at hx
        · rcases h with rfl | ⟨t, rfl⟩
          · exact below_refl _
          · exact Lib.bytesWorld_below _ _ _
      | range => simp only [hn] at hm; cases hm
      | _ =>
        simp only [hn] at hm
        cases hm
        refine ⟨rfl, fun κ w args' hW hr ha => ?_⟩
        obtain ⟨y, ys, rfl, h1, h2⟩ := ha.uncons
        have := h2.unnil; subst this
        obtain ⟨b, rfl, hb⟩ := str_inv h1
        have hz := sz b hb
        obtain ⟨t, p, hv⟩ := hW.ers "strconv.ErrSyntax" (by simp [wErrs]) synNe
        refine (Any.strconv_Atoi_syntax_var Tryd.laysC172 b (by omega) (by rw [hb]; exact hn) t p w hv).mono ?_
        rintro e w' ⟨N, rfl, _, _, h⟩
        refine ⟨_, rfl, .tup _ [_, _] rfl (fun j x y hx hy => ?_), h⟩
        rcases j with _ | _ | j
        · cases hx; cases hy; exact .int _ _
        · cases hx; exact .junk _
        · simp at hx
    · cases hm
  · cases hm) hW

theorem sCmp : Sound Tryd.prog 22 (xCmp) := sx (fs := []) (l := []) trivial Tryd.func22 policy_newest_1_ok 10
theorem sIns : Sound Tryd.prog 53 (xIns [(22, xCmp)]) := Sound.exD (fs := []) (l := []) (ds := [(22, xCmp)]) (is := []) trivial ⟨sCmp, trivial⟩ trivial mix Tryd.func53 slices_insertionSortCmpFunc_ok 1000
theorem sSwapR : Sound Tryd.prog 91 (xSwapRange) := sx (fs := []) (l := []) trivial Tryd.func91 slices_swapRangeCmpFunc_ok 1000
theorem sRotate : Sound Tryd.prog 75 (xRotate) := sx (fs := [91]) (l := [xSwapRange]) ⟨sSwapR, trivial⟩ Tryd.func75 slices_rotateCmpFunc_ok 1000
theorem sSym : ∀ F, Sound Tryd.prog 54 (xSym [(22, xCmp)] F)
  | 0 => Sound.none _ _
  | F + 1 => Sound.exD (fs := [75, 54]) (l := [xRotate, xSym [(22, xCmp)] F]) (ds := [(22, xCmp)]) (is := []) ⟨sRotate, sSym F, trivial⟩ ⟨sCmp, trivial⟩ trivial mix Tryd.func54 slices_symMergeCmpFunc_ok 1000
theorem sStable : Sound Tryd.prog 33 (xStable [(22, xCmp)]) := Sound.exD (fs := [53, 54]) (l := [xIns [(22, xCmp)], xSym [(22, xCmp)] 40]) (ds := [(22, xCmp)]) (is := []) ⟨sIns, sSym 40, trivial⟩ ⟨sCmp, trivial⟩ trivial mix Tryd.func33 slices_stableCmpFunc_ok 1000
theorem sSortSt : Sound Tryd.prog 21 (xSortStable [(22, xCmp)]) := Sound.exD (fs := [33]) (l := [xStable [(22, xCmp)]]) (ds := [(22, xCmp)]) (is := []) ⟨sStable, trivial⟩ ⟨sCmp, trivial⟩ trivial mix Tryd.func21 slices_SortStableFunc_ok 1000
theorem sNewest : Sound Tryd.prog 11 (xNewest 22) := sx (fs := [21]) (l := [xSortStable [(22, xCmp)]]) ⟨sSortSt, trivial⟩ Tryd.func11 policy_newest_ok 1000
theorem sWeek : Sound Tryd.prog 34 (xWeek) := sx (fs := []) (l := []) trivial Tryd.func34 clock_Week_ok 10
theorem sUp : Sound Tryd.prog 100 (xUp) := sx (fs := []) (l := []) trivial Tryd.func100 clock_leaps_1_ok 10
theorem sLeaps : Sound Tryd.prog 92 (xLeaps 100) := Sound.exD (fs := []) (l := []) (ds := [(100, xUp)]) (is := []) trivial ⟨sUp, trivial⟩ trivial mix Tryd.func92 clock_leaps_ok 10
theorem sYearDay : Sound Tryd.prog 76 (xYearDay 100) := sx (fs := [92]) (l := [xLeaps 100]) ⟨sLeaps, trivial⟩ Tryd.func76 clock_yearDay_ok 10
theorem sYearOf : Sound Tryd.prog 77 (xYearOf 100) := sx (fs := [76]) (l := [xYearDay 100]) ⟨sYearDay, trivial⟩ Tryd.func77 clock_yearOf_ok 1000
theorem sIsLeap : Sound Tryd.prog 93 (xIsLeap) := sx (fs := []) (l := []) trivial Tryd.func93 clock_isLeap_ok 10
theorem sDays : Sound Tryd.prog 78 (xDays) := sx (fs := [93]) (l := [xIsLeap]) ⟨sIsLeap, trivial⟩ Tryd.func78 clock_Days_ok 10
theorem sSplit : Sound Tryd.prog 55 (mSplit 100) := Sound.pure 3 (sx (fs := [76, 77, 78]) (l := [xYearDay 100, xYearOf 100, xDays]) ⟨sYearDay, sYearOf, sDays, trivial⟩ Tryd.func55 clock_Split_ok 1000)
theorem sMonth : Sound Tryd.prog 35 (mMonth 100) := Sound.pure 1 (sx (fs := [55]) (l := [mSplit 100]) ⟨sSplit, trivial⟩ Tryd.func35 policy_month_ok 10)
theorem sSlot : Sound Tryd.prog 23 (xSlot 100) := sx (fs := [34, 35]) (l := [xWeek, mMonth 100]) ⟨sWeek, sMonth, trivial⟩ Tryd.func23 policy_Slot_ok 10
theorem sMark : Sound Tryd.prog 12 (xMark 100) := sx (fs := [23]) (l := [xSlot 100]) ⟨sSlot, trivial⟩ Tryd.func12 policy_mark_ok 1000
theorem sKeep : Sound Tryd.prog 6 (xKeep 22 100) := sx (fs := [11, 12]) (l := [xNewest 22, xMark 100]) ⟨sNewest, sMark, trivial⟩ Tryd.func6 policy_Keep_ok 1000
theorem sIndexL : Sound Tryd.prog 39 (xIndexL) := sx (fs := [57, 58, 59, 60]) (l := [mIxB, noM, noM, noM]) ⟨sIxB, Sound.none _ _, Sound.none _ _, Sound.none _ _, trivial⟩ Tryd.func39 stringslite_Index_ok 10
theorem sIndex : Sound Tryd.prog 38 (xIndex) := sx (fs := [39]) (l := [xIndexL]) ⟨sIndexL, trivial⟩ Tryd.func38 strings_Index_ok 10
theorem sCutL : Sound Tryd.prog 25 (xCutL) := sx (fs := [39]) (l := [xIndexL]) ⟨sIndexL, trivial⟩ Tryd.func25 stringslite_Cut_ok 10
theorem sCut : Sound Tryd.prog 15 (xCut) := sx (fs := [25]) (l := [xCutL]) ⟨sCutL, trivial⟩ Tryd.func15 strings_Cut_ok 10
theorem sSpl0 : Sound Tryd.prog 24 (xSpl0 36) := sx (fs := []) (l := []) trivial Tryd.func24 strings_splitSeq_ok 10
theorem sSpl : Sound Tryd.prog 14 (xSpl 36) := sx (fs := [24]) (l := [xSpl0 36]) ⟨sSpl0, trivial⟩ Tryd.func14 strings_SplitSeq_ok 10
theorem sItSplit : SoundI Tryd.prog 36 itSplit := SoundI.ex (fs := [37, 38]) (l := [noM, xIndex]) ⟨Sound.none _ _, sIndex, trivial⟩ mix Tryd.func36 strings_splitSeq_1_ok 1000
theorem sParts : Sound Tryd.prog 13 (xParts) := sx (fs := []) (l := []) trivial Tryd.func13 policy_Policy_parts_ok 10
theorem sP1 : Sound Tryd.prog 17 (xP1) := sx (fs := []) (l := []) trivial Tryd.func17 policy_Parse_1_ok 10
theorem sIdxF : Sound Tryd.prog 16 (xIdxF 17) := Sound.exD (fs := []) (l := []) (ds := [(17, xP1)]) (is := []) trivial ⟨sP1, trivial⟩ trivial mix Tryd.func16 slices_IndexFunc_ok 1000
theorem sMkSet : Sound Tryd.prog 42 (mMkSet) := Sound.pure 3 (sx (fs := []) (l := []) trivial Tryd.func42 strings_makeASCIISet_ok 1000)
theorem sHas : Sound Tryd.prog 61 (xHas) := sx (fs := []) (l := []) trivial Tryd.func61 strings_asciiSet_contains_ok 10
theorem sTrR : Sound Tryd.prog 44 (xTrR) := sx (fs := [61]) (l := [xHas]) ⟨sHas, trivial⟩ Tryd.func44 strings_trimRightASCII_ok 1000
theorem sTrL : Sound Tryd.prog 43 (xTrL) := sx (fs := [61]) (l := [xHas]) ⟨sHas, trivial⟩ Tryd.func43 strings_trimLeftASCII_ok 1000
theorem sTrim : Sound Tryd.prog 26 (xTrim) := sx (fs := [41, 40, 42, 44, 43, 46, 45]) (l := [noM, noM, mMkSet, xTrR, xTrL, noM, noM]) ⟨Sound.none _ _, Sound.none _ _, sMkSet, sTrR, sTrL, Sound.none _ _, Sound.none _ _, trivial⟩ Tryd.func26 strings_Trim_ok 10
theorem sHasPL : Sound Tryd.prog 47 (xHasPL) := sx (fs := []) (l := []) trivial Tryd.func47 stringslite_HasPrefix_ok 10
theorem sHasP : Sound Tryd.prog 27 (xHasP) := sx (fs := [47]) (l := [xHasPL]) ⟨sHasPL, trivial⟩ Tryd.func27 strings_HasPrefix_ok 10
theorem sCount : Sound Tryd.prog 18 (mCount) := Sound.pure 2 (sx (fs := [26, 27, 28]) (l := [xTrim, xHasP, mAtoi]) ⟨sTrim, sHasP, sAtoi, trivial⟩ Tryd.func18 policy_count_ok 10)
theorem sParse : Sound Tryd.prog 8 (xParse 36 17) := Sound.exD (fs := [13, 14, 15, 16, 18]) (l := [xParts, xSpl 36, xCut, xIdxF 17, mCount]) (ds := []) (is := [(36, itSplit)]) ⟨sParts, sSpl, sCut, sIdxF, sCount, trivial⟩ trivial ⟨sItSplit, trivial⟩ mix Tryd.func8 policy_Parse_ok 1000
theorem sAlive : Sound Tryd.prog 5 (mAlive 22 100 36 17) := Sound.pure 1 (sx (fs := [6, 8]) (l := [xKeep 22 100, xParse 36 17]) ⟨sKeep, sParse, trivial⟩ Tryd.func5 l30_alive_ok 10)
theorem sDrop : Sound Tryd.prog 7 (xDrop 22 100) := sx (fs := [6]) (l := [xKeep 22 100]) ⟨sKeep, trivial⟩ Tryd.func7 policy_Drop_ok 1000
theorem sLawMore : Sound Tryd.prog 3 (xLawMore (mAlive 22 100 36 17) 22 100) := sx (fs := [5, 6, 7]) (l := [mAlive 22 100 36 17, xKeep 22 100, xDrop 22 100]) ⟨sAlive, sKeep, sDrop, trivial⟩ Tryd.func3 l30_PolicyMore_ok 1000
end Am.PolD
end

/- Texts: Index and Cut at a text of one byte; HasPrefix. -/
section
namespace Am.Pol
open Am Go Am.Ir
set_option maxRecDepth 100000
attribute [local congr] Post_cg
attribute [local simp] ox oz kx kz og ogz kg kgz mo ai

theorem u8_back (c : UInt8) : (((c.toNat : Nat) : Int).toNat).toUInt8 = c := by simp

theorem indexL_ok (s : List UInt8) (c : UInt8) (hs : s ≠ [c]) (S : St) : xIndexL [.str s, .str [c]] S = some (.int .i64 (Lib.indexByte s c), S) := by
  unfold xIndexL exM
  refine evF_post (F := stringslite_Index) rfl rfl ?_
  have c1 : binA .eql (.int .i64 1) (.int .i64 0) = some (.bool false) := rfl
  have c2 : binA .eql (.int .i64 1) (.int .i64 1) = some (.bool true) := rfl
  have c3 : binA .eql (.str [c]) (.str s) = some (.bool false) := by
    have h : ([c] == s) = false := by simpa using fun h : [c] = s => hs h.symm
    show some (AVal.bool ([c] == s)) = _
    rw [h]
  have c4 : mIxB [.str s, .int .u8 ((c.toNat : Nat) : Int)] S = some (.int .i64 (Lib.indexByte s c), S) := by
    simp only [mIxB, u8_back]
  generalize mIxB = m at *
  generalize Lib.indexByte s c = z at *
  simp [stringslite_Index, exM, orc, orcD, evF, evC_skip, evC_region, evC_cond, evC_exit, evC_ret, evOps, evOper, evAny, evOp, evCall, putR, putA, Fr.ev, Fr.of, Fr.get, Fr.set, stable, junkA, junkL, resultsA, resA, same, Post_seq, Post_block, Post_some, lenA, c1, c2, c3, c4]
theorem indexL_same (c : UInt8) (S : St) : xIndexL [.str [c], .str [c]] S = some (.int .i64 0, S) := by
  unfold xIndexL exM
  refine evF_post (F := stringslite_Index) rfl rfl ?_
  have c1 : binA .eql (.int .i64 1) (.int .i64 0) = some (.bool false) := rfl
  have c3 : binA .eql (.str [c]) (.str [c]) = some (.bool true) := by
    show some (AVal.bool ([c] == [c])) = _
    simp
  generalize mIxB = m at *
  simp [stringslite_Index, exM, orc, orcD, evF, evC_skip, evC_region, evC_cond, evC_exit, evC_ret, evOps, evOper, evAny, evOp, evCall, putR, putA, Fr.ev, Fr.of, Fr.get, Fr.set, stable, junkA, junkL, resultsA, resA, same, Post_seq, Post_block, Post_some, lenA, c1, c3]
theorem indexL_all (s : List UInt8) (c : UInt8) (S : St) : xIndexL [.str s, .str [c]] S = some (.int .i64 (Lib.indexByte s c), S) := by
  by_cases h : s = [c]
  · subst h
    rw [indexL_same]
    simp [Lib.indexByte]
  · exact indexL_ok s c h S
theorem index_ok (s : List UInt8) (c : UInt8) (S : St) : xIndex [.str s, .str [c]] S = some (.int .i64 (Lib.indexByte s c), S) := by
  unfold xIndex exM
  refine evF_post (F := strings_Index) rfl rfl ?_
  have h := indexL_all s c S
  generalize xIndexL = m at *
  generalize Lib.indexByte s c = z at *
  simp [strings_Index, exM, orc, orcD, evF, evC_skip, evC_region, evC_cond, evC_exit, evC_ret, evOps, evOper, evAny, evOp, evCall, putR, putA, Fr.ev, Fr.of, Fr.get, Fr.set, stable, junkA, junkL, resultsA, resA, same, Post_seq, Post_block, Post_some, h]

/-- Where a byte stands. -/
theorem indexByte_cases (s : List UInt8) (c : UInt8) : (Lib.indexByte s c = -1 ∧ c ∉ s) ∨ ∃ i : Nat, Lib.indexByte s c = (i : Int) ∧ i < s.length ∧ s = s.take i ++ c :: s.drop (i + 1) ∧ c ∉ s.take i := by
  induction s with
  | nil => exact .inl ⟨rfl, by simp⟩
  | cons b s ih =>
    by_cases hb : b = c
    · subst hb
      refine .inr ⟨0, by simp [Lib.indexByte], by simp, by simp, by simp⟩
    · have e : (b == c) = false := by simpa using hb
      rcases ih with ⟨h1, h2⟩ | ⟨i, h1, h2, h3, h4⟩
      · exact .inl ⟨by simp [Lib.indexByte, e, h1], by simp [h2, Ne.symm hb]⟩
      · refine .inr ⟨i + 1, ?_, by simp; omega, by simp; exact h3, by simp [h4, Ne.symm hb]⟩
        have : ((i : Int) == -1) = false := by simp only [beq_eq_false_iff_ne]; omega
        simp [Lib.indexByte, e, h1, this]

/-- A text cut at the first of a byte. -/
def cutAt (s : List UInt8) (c : UInt8) : List UInt8 × List UInt8 × Bool :=
  if Lib.indexByte s c < 0 then (s, [], false) else (s.take (Lib.indexByte s c).toNat, s.drop ((Lib.indexByte s c).toNat + 1), true)

theorem cutL_ok (s : List UInt8) (c : UInt8) (hs : s.length < 1000000) (S : St) : xCutL [.str s, .str [c]] S = some (.tup [.str (cutAt s c).1, .str (cutAt s c).2.1, .bool (cutAt s c).2.2], S) := by
  have h := indexL_all s c S
  unfold xCutL exM
  refine evF_post (F := stringslite_Cut) rfl rfl ?_
  generalize xIndexL = m at *
  rcases indexByte_cases s c with ⟨h1, _⟩ | ⟨i, h1, h2, _, _⟩
  · have e : cutAt s c = (s, [], false) := by unfold cutAt; rw [if_pos (by omega)]
    have c1 : binA .geq (.int .i64 (-1)) (.int .i64 0) = some (.bool false) := rfl
    rw [e]
    rw [h1] at h
    simp [stringslite_Cut, exM, orc, orcD, evF, evC_skip, evC_region, evC_cond, evC_exit, evC_ret, evOps, evOper, evAny, evOp, evCall, putR, putA, Fr.ev, Fr.of, Fr.get, Fr.set, stable, junkA, junkL, resultsA, resA, same, Post_seq, Post_block, Post_some, h, c1]
  · have e : cutAt s c = (s.take i, s.drop (i + 1), true) := by unfold cutAt; rw [if_neg (by omega), h1]; rfl
    have c1 : binA .geq (.int .i64 (i : Int)) (.int .i64 0) = some (.bool true) := geq_t (by omega)
    have c2 : binA .add (.int .i64 (i : Int)) (.int .i64 1) = some (.int .i64 ((i + 1 : Nat) : Int)) := add_is (by omega) (by omega) (by omega)
    have c3 : slcStrA (.str s) none (some (.int .i64 (i : Int))) = some (.str (s.take i)) := by
      simp only [slcStrA, bounds_nh (n := s.length) (k := .i64) (u := (i : Int)) (by omega) (by omega)]
      simp
    have c4 : slcStrA (.str s) (some (.int .i64 ((i + 1 : Nat) : Int))) none = some (.str (s.drop (i + 1))) := by
      simp only [slcStrA, bounds_ln (n := s.length) (k := .i64) (l := ((i + 1 : Nat) : Int)) (by omega) (by omega)]
      rw [Int.toNat_natCast, List.take_of_length_le (Nat.le_refl _)]
    rw [e]
    rw [h1] at h
    generalize ((i + 1 : Nat) : Int) = z1 at *
    simp [stringslite_Cut, exM, orc, orcD, evF, evC_skip, evC_region, evC_cond, evC_exit, evC_ret, evOps, evOper, evAny, evOp, evCall, putR, putA, Fr.ev, Fr.of, Fr.get, Fr.set, stable, junkA, junkL, resultsA, resA, same, Post_seq, Post_block, Post_some, lenA, h, c1, c2, c3, c4]

theorem cut_ok (s : List UInt8) (c : UInt8) (hs : s.length < 1000000) (S : St) : xCut [.str s, .str [c]] S = some (.tup [.str (cutAt s c).1, .str (cutAt s c).2.1, .bool (cutAt s c).2.2], S) := by
  have h := cutL_ok s c hs S
  unfold xCut exM
  refine evF_post (F := strings_Cut) rfl rfl ?_
  generalize xCutL = m at *
  simp [strings_Cut, exM, orc, orcD, evF, evC_skip, evC_region, evC_cond, evC_exit, evC_ret, evOps, evOper, evAny, evOp, evCall, putR, putA, Fr.ev, Fr.of, Fr.get, Fr.set, stable, junkA, junkL, resultsA, resA, same, Post_seq, Post_block, Post_some, h]
end Am.Pol
end

/- Texts: Trim at the digits; count. -/
section
namespace Am.Pol
open Am Go Am.Ir
set_option maxRecDepth 100000
attribute [local congr] Post_cg
attribute [local simp] ox oz kx kz og ogz kg kgz mo ai

def isD (c : UInt8) : Bool := decide (48 ≤ c.toNat) && decide (c.toNat ≤ 57)
def digs : List UInt8 := [48, 49, 50, 51, 52, 53, 54, 55, 56, 57]
/-- The set of the digits. -/
def setC : List AVal := (List.range 256).map fun c => .bool (decide (48 ≤ c) && decide (c ≤ 57))
theorem setC_get (c : UInt8) : setC[c.toNat]? = some (.bool (isD c)) := by
  have : c.toNat < 256 := c.toNat_lt
  simp [setC, isD, this]

theorem mkset_ok (S : St) : mMkSet [.str digs] S = some (.tup [.agg setC, .bool true], S) := by
  have h : exM (orc []) strings_makeASCIISet 1000 [.str digs] [] = some (.tup [.agg setC, .bool true], [.live 0 setC]) := by kernel_rfl
  exact pureM_run rfl h (by kernel_rfl)

theorem has_ok2 {S : St} {r : Nat} (h : S[r]? = some (.live 0 setC)) (c : UInt8) : xHas [.ptr r 0 0, .int .u8 ((c.toNat : Nat) : Int)] S = some (.bool (isD c), S) := by
  have hc : c.toNat < 256 := c.toNat_lt
  have c1 : iaddrAA 1 256 (.ptr r 0 0) (.int .u8 ((c.toNat : Nat) : Int)) = some (.ptr r 0 c.toNat) := by rw [iaA (by omega) (by omega)]; simp
  have c2 : loadA none (.ptr r 0 c.toNat) S = some (.bool (isD c)) := by rw [load_c h, setC_get]
  unfold xHas exM
  refine evF_post (F := strings_asciiSet_contains) rfl rfl ?_
  generalize isD c = b at *
  simp [strings_asciiSet_contains, exM, orc, orcD, evF, evC_skip, evC_region, evC_cond, evC_exit, evC_ret, evOps, evOper, evAny, evOp, evCall, putR, putA, Fr.ev, Fr.of, Fr.get, Fr.set, stable, junkA, junkL, resultsA, resA, same, Post_seq, Post_block, Post_some, c1, c2]

theorem idx_str {s : List UInt8} {i : Nat} {c : UInt8} (h : s[i]? = some c) : i < s.length := (List.getElem?_eq_some_iff.1 h).1

theorem snocU {x : List UInt8} (h : x ≠ []) : ∃ y z, x = y ++ [z] := ⟨x.dropLast, x.getLast h, (List.dropLast_concat_getLast h).symm⟩

theorem trR_ok {S : St} {r : Nat} (h : S[r]? = some (.live 0 setC)) (s : List UInt8) (hs : s.length < 900) :
    ∃ u t, xTrR [.str s, .ptr r 0 0] S = some (.str u, S) ∧ s = u ++ t ∧ t.all isD = true ∧ ∀ y c, u = y ++ [c] → isD c = false := by
  have key : ∃ f' T, evC (orc [xHas]) 1000 strings_trimRightASCII_s1 [(0, .str s), (1, .ptr r 0 0), (4, .str [])] S = some (.normal, f', T) ∧ T = S ∧ ∃ u t, f'.get 0 = .str u ∧ s = u ++ t ∧ t.all isD = true ∧ ∀ y c, u = y ++ [c] → isD c = false := by
    refine loop_meas (O := orc [xHas]) (k := 1000) (id := 0) (b := strings_trimRightASCII_l0)
      (I := fun c f T => T = S ∧ f.get 1 = .ptr r 0 0 ∧ ∃ u t, f.get 0 = .str u ∧ s = u ++ t ∧ t.all isD = true ∧ u.length = c)
      (Q := fun f T => T = S ∧ ∃ u t, f.get 0 = .str u ∧ s = u ++ t ∧ t.all isD = true ∧ ∀ y c, u = y ++ [c] → isD c = false) ?_ (m := s.length) (by omega) ⟨rfl, by simp [Fr.get], s, [], by simp [Fr.get], by simp, rfl, rfl⟩
    rintro c f T ⟨hT, f1, u, t, f0, hu, ht, rfl⟩
    rw [hT]
    by_cases h0 : u = []
    · subst h0
      have c1 : binA .gtr (.int .i64 (([] : List UInt8).length : Int)) (.int .i64 0) = some (.bool false) := rfl
      suffices hmid : Post (evC (orc [xHas]) 1000 strings_trimRightASCII_l0 f S) (fun e f' T => e = .exit 0 ∧ T = S ∧ f'.get 0 = .str []) by
        refine hmid.mono ?_
        rintro e f' U ⟨rfl, rfl, g0⟩
        exact .inr ⟨rfl, rfl, [], t, g0, hu, ht, by simp⟩
      simp only [List.length_nil] at c1
      generalize xHas = m at *
      simp [strings_trimRightASCII_l0, exM, orc, orcD, evF, evC_skip, evC_region, evC_cond, evC_exit, evC_ret, evOps, evOper, evAny, evOp, evCall, putR, putA, Fr.ev, Fr.of, Fr.get, Fr.set, stable, junkA, junkL, resultsA, resA, same, Post_seq, Post_block, Post_some, lenA, Fr.get_set, f0, f1, gtr_f (k := .i64) (a := 0) (b := 0) (Int.le_refl _)]
    · obtain ⟨v, z, rfl⟩ := snocU h0
      have hv : (v ++ [z]).length = v.length + 1 := by simp
      have hlen : v.length + 1 ≤ s.length := by rw [hu]; simp
      have c1 : binA .gtr (.int .i64 ((v ++ [z]).length : Int)) (.int .i64 0) = some (.bool true) := gtr_t (by rw [hv]; omega)
      have c2 : binA .sub (.int .i64 ((v ++ [z]).length : Int)) (.int .i64 1) = some (.int .i64 (v.length : Int)) := sub_is (by rw [hv]; omega) (by omega) (by omega)
      have c3 : (v ++ [z])[v.length]? = some z := by simp
      have c4 := has_ok2 h z
      have c5 : slcStrA (.str (v ++ [z])) none (some (.int .i64 (v.length : Int))) = some (.str v) := by
        simp only [slcStrA, bounds_nh (n := (v ++ [z]).length) (k := .i64) (u := (v.length : Int)) (by omega) (by rw [hv]; omega)]
        simp
      by_cases hz : isD z = true
      · rw [hz] at c4
        suffices hmid : Post (evC (orc [xHas]) 1000 strings_trimRightASCII_l0 f S) (fun e f' T => e = .normal ∧ T = S ∧ f'.get 1 = .ptr r 0 0 ∧ f'.get 0 = .str v) by
          refine hmid.mono ?_
          rintro e f' U ⟨rfl, rfl, g1, g0⟩
          exact .inl ⟨rfl, v.length, by omega, rfl, g1, v, z :: t, g0, by rw [hu]; simp, by simp [hz]; simpa using ht, rfl⟩
        generalize xHas = m at *
        generalize hw : v ++ [z] = w at *
        simp [strings_trimRightASCII_l0, exM, orc, orcD, evF, evC_skip, evC_region, evC_cond, evC_exit, evC_ret, evOps, evOper, evAny, evOp, evCall, putR, putA, Fr.ev, Fr.of, Fr.get, Fr.set, stable, junkA, junkL, resultsA, resA, same, Post_seq, Post_block, Post_some, unA, lenA, Fr.get_set, f0, f1, c1, c2, c3, c4, c5]
      · rw [show isD z = false by simpa using hz] at c4
        suffices hmid : Post (evC (orc [xHas]) 1000 strings_trimRightASCII_l0 f S) (fun e f' T => e = .exit 0 ∧ T = S ∧ f'.get 0 = .str (v ++ [z])) by
          refine hmid.mono ?_
          rintro e f' U ⟨rfl, rfl, g0⟩
          refine .inr ⟨rfl, rfl, v ++ [z], t, g0, hu, ht, fun y c hy => ?_⟩
          have := List.append_inj_right' hy rfl
          simp at this; subst this
          simpa using hz
        generalize xHas = m at *
        generalize hw : v ++ [z] = w at *
        simp [strings_trimRightASCII_l0, exM, orc, orcD, evF, evC_skip, evC_region, evC_cond, evC_exit, evC_ret, evOps, evOper, evAny, evOp, evCall, putR, putA, Fr.ev, Fr.of, Fr.get, Fr.set, stable, junkA, junkL, resultsA, resA, same, Post_seq, Post_block, Post_some, unA, lenA, Fr.get_set, f0, f1, c1, c2, c3, c4]
  obtain ⟨f', T, g1, rfl, u, t, g2, g3, g4, g5⟩ := key
  refine ⟨u, t, ?_, g3, g4, g5⟩
  unfold xTrR exM
  refine evF_post (F := strings_trimRightASCII) rfl rfl ?_
  simp only [orc] at g1
  generalize xHas = m at *
  simp [strings_trimRightASCII, strings_trimRightASCII_t2, exM, orc, orcD, evF, evC_skip, evC_region, evC_cond, evC_exit, evC_ret, evOps, evOper, evAny, evOp, evCall, putR, putA, Fr.ev, Fr.of, Fr.get, Fr.set, stable, junkA, junkL, resultsA, resA, same, Post_seq, Post_block, Post_some]
  refine Post.of g1 ?_
  simp [exM, orc, orcD, evF, evC_skip, evC_region, evC_cond, evC_exit, evC_ret, evOps, evOper, evAny, evOp, evCall, putR, putA, Fr.ev, Fr.of, Fr.get, Fr.set, stable, junkA, junkL, resultsA, resA, same, Post_seq, Post_block, Post_some, Fr.get_set, g2]

theorem trL_ok {S : St} {r : Nat} (h : S[r]? = some (.live 0 setC)) (s : List UInt8) (hs : s.length < 900) :
    ∃ u t, xTrL [.str s, .ptr r 0 0] S = some (.str u, S) ∧ s = t ++ u ∧ t.all isD = true := by
  have key : ∃ f' T, evC (orc [xHas]) 1000 strings_trimLeftASCII_s1 [(0, .str s), (1, .ptr r 0 0), (4, .str [])] S = some (.normal, f', T) ∧ T = S ∧ ∃ u t, f'.get 0 = .str u ∧ s = t ++ u ∧ t.all isD = true := by
    refine loop_meas (O := orc [xHas]) (k := 1000) (id := 0) (b := strings_trimLeftASCII_l0)
      (I := fun c f T => T = S ∧ f.get 1 = .ptr r 0 0 ∧ ∃ u t, f.get 0 = .str u ∧ s = t ++ u ∧ t.all isD = true ∧ u.length = c)
      (Q := fun f T => T = S ∧ ∃ u t, f.get 0 = .str u ∧ s = t ++ u ∧ t.all isD = true) ?_ (m := s.length) (by omega) ⟨rfl, by simp [Fr.get], s, [], by simp [Fr.get], by simp, rfl, rfl⟩
    rintro c f T ⟨hT, f1, u, t, f0, hu, ht, rfl⟩
    rw [hT]
    cases u with
    | nil =>
      suffices hmid : Post (evC (orc [xHas]) 1000 strings_trimLeftASCII_l0 f S) (fun e f' T => e = .exit 0 ∧ T = S ∧ f'.get 0 = .str []) by
        refine hmid.mono ?_
        rintro e f' U ⟨rfl, rfl, g0⟩
        exact .inr ⟨rfl, rfl, [], t, g0, hu, ht⟩
      generalize xHas = m at *
      simp [strings_trimLeftASCII_l0, exM, orc, orcD, evF, evC_skip, evC_region, evC_cond, evC_exit, evC_ret, evOps, evOper, evAny, evOp, evCall, putR, putA, Fr.ev, Fr.of, Fr.get, Fr.set, stable, junkA, junkL, resultsA, resA, same, Post_seq, Post_block, Post_some, lenA, Fr.get_set, f0, f1, gtr_f (k := .i64) (a := 0) (b := 0) (Int.le_refl _)]
    | cons z v =>
      have hlen : v.length + 1 ≤ s.length := by rw [hu]; simp
      have c1 : binA .gtr (.int .i64 ((z :: v).length : Int)) (.int .i64 0) = some (.bool true) := gtr_t (by simp)
      have c3 : (z :: v)[0]? = some z := rfl
      have c4 := has_ok2 h z
      have c5 : slcStrA (.str (z :: v)) (some (.int .i64 1)) none = some (.str v) := by
        simp only [slcStrA, bounds_ln (n := (z :: v).length) (k := .i64) (l := 1) (by omega) (by simp; omega)]
        simp
      by_cases hz : isD z = true
      · rw [hz] at c4
        suffices hmid : Post (evC (orc [xHas]) 1000 strings_trimLeftASCII_l0 f S) (fun e f' T => e = .normal ∧ T = S ∧ f'.get 1 = .ptr r 0 0 ∧ f'.get 0 = .str v) by
          refine hmid.mono ?_
          rintro e f' U ⟨rfl, rfl, g1, g0⟩
          exact .inl ⟨rfl, v.length, by simp, rfl, g1, v, t ++ [z], g0, by rw [hu]; simp, by simp [hz]; simpa using ht, rfl⟩
        generalize xHas = m at *
        generalize hw : z :: v = w at *
        simp [strings_trimLeftASCII_l0, exM, orc, orcD, evF, evC_skip, evC_region, evC_cond, evC_exit, evC_ret, evOps, evOper, evAny, evOp, evCall, putR, putA, Fr.ev, Fr.of, Fr.get, Fr.set, stable, junkA, junkL, resultsA, resA, same, Post_seq, Post_block, Post_some, unA, lenA, Fr.get_set, f0, f1, c1, c3, c4, c5]
      · rw [show isD z = false by simpa using hz] at c4
        suffices hmid : Post (evC (orc [xHas]) 1000 strings_trimLeftASCII_l0 f S) (fun e f' T => e = .exit 0 ∧ T = S ∧ f'.get 0 = .str (z :: v)) by
          refine hmid.mono ?_
          rintro e f' U ⟨rfl, rfl, g0⟩
          exact .inr ⟨rfl, rfl, z :: v, t, g0, hu, ht⟩
        generalize xHas = m at *
        generalize hw : z :: v = w at *
        simp [strings_trimLeftASCII_l0, exM, orc, orcD, evF, evC_skip, evC_region, evC_cond, evC_exit, evC_ret, evOps, evOper, evAny, evOp, evCall, putR, putA, Fr.ev, Fr.of, Fr.get, Fr.set, stable, junkA, junkL, resultsA, resA, same, Post_seq, Post_block, Post_some, unA, lenA, Fr.get_set, f0, f1, c1, c3, c4]
  obtain ⟨f', T, g1, rfl, u, t, g2, g3, g4⟩ := key
  refine ⟨u, t, ?_, g3, g4⟩
  unfold xTrL exM
  refine evF_post (F := strings_trimLeftASCII) rfl rfl ?_
  simp only [orc] at g1
  generalize xHas = m at *
  simp [strings_trimLeftASCII, strings_trimLeftASCII_t2, exM, orc, orcD, evF, evC_skip, evC_region, evC_cond, evC_exit, evC_ret, evOps, evOper, evAny, evOp, evCall, putR, putA, Fr.ev, Fr.of, Fr.get, Fr.set, stable, junkA, junkL, resultsA, resA, same, Post_seq, Post_block, Post_some]
  refine Post.of g1 ?_
  simp [exM, orc, orcD, evF, evC_skip, evC_region, evC_cond, evC_exit, evC_ret, evOps, evOper, evAny, evOp, evCall, putR, putA, Fr.ev, Fr.of, Fr.get, Fr.set, stable, junkA, junkL, resultsA, resA, same, Post_seq, Post_block, Post_some, Fr.get_set, g2]
end Am.Pol
end

/- Texts: count. -/
section
namespace Am.Pol
open Am Go Am.Ir
set_option maxRecDepth 100000
attribute [local congr] Post_cg
attribute [local simp] ox oz kx kz og ogz kg kgz mo ai

theorem fill_rep : cells? (.agg setC) = some setC ∧ setC.length = 256 := ⟨rfl, by simp [setC]⟩

theorem trim_ok (s : List UInt8) (hs : s.length < 900) (S : St) : ∃ u T, xTrim [.str s, .str digs] S = some (.str u, T) ∧ (u = [] ↔ s.all isD = true) := by
  by_cases h0 : s = []
  · subst h0
    refine ⟨[], S, ?_, by simp⟩
    unfold xTrim exM
    refine evF_post (F := strings_Trim) rfl rfl ?_
    have c1 : binA .eql (.str []) (.str []) = some (.bool true) := rfl
    simp [strings_Trim, exM, orc, orcD, evF, evC_skip, evC_region, evC_cond, evC_exit, evC_ret, evOps, evOper, evAny, evOp, evCall, putR, putA, Fr.ev, Fr.of, Fr.get, Fr.set, stable, junkA, junkL, resultsA, resA, same, Post_seq, Post_block, Post_some, c1]
  · have c1 : binA .eql (.str s) (.str []) = some (.bool false) := by
      have h : (s == []) = false := by simpa using h0
      show some (AVal.bool (s == [])) = _
      rw [h]
    have c2 : binA .eql (.str digs) (.str []) = some (.bool false) := rfl
    have c3 : lenA .str (.str digs) = some (.int .i64 10) := rfl
    have c4 : binA .eql (.int .i64 10) (.int .i64 1) = some (.bool false) := rfl
    have c5 := mkset_ok S
    obtain ⟨T, hT⟩ : ∃ T : St, T = S ++ [.live 0 setC] := ⟨_, rfl⟩
    have c6 : storeA 256 (.ptr S.length 0 0) (.agg setC) (S ++ [.live 0 (rp [(256, .bool false)])]) = some T := by
      have h1 : (S ++ [ABlock.live 0 (rp [(256, .bool false)])])[S.length]? = some (.live 0 (rp [(256, .bool false)])) := by simp
      have h2 : (rp [(256, AVal.bool false)]).length = 256 := by simp [rp]
      simp only [storeA, fill_rep.1, h1, h2, fill_rep.2]
      rw [if_pos ⟨trivial, trivial, by omega⟩, hT]
      have h3 : splice (rp [(256, AVal.bool false)]) 0 setC = setC := by
        simp only [splice, List.take_zero, List.nil_append, Nat.zero_add]
        rw [List.drop_of_length_le (by rw [h2, fill_rep.2]; omega), List.append_nil]
      rw [h3]
      simp
    have hb : T[S.length]? = some (.live 0 setC) := by rw [hT]; simp
    obtain ⟨u, t, e1, e2, e3, e4⟩ := trR_ok hb s hs
    have hul : u.length ≤ s.length := by rw [e2]; simp
    obtain ⟨v, w, e5, e6, e7⟩ := trL_ok hb u (by omega)
    refine ⟨v, T, ?_, ?_⟩
    · unfold xTrim exM
      refine evF_post (F := strings_Trim) rfl rfl ?_
      generalize digs = dd at *
      generalize mMkSet = ma at *
      generalize xTrR = mb at *
      generalize xTrL = mc at *
      generalize setC = sc at *
      simp [strings_Trim, exM, orc, orcD, evF, evC_skip, evC_region, evC_cond, evC_exit, evC_ret, evOps, evOper, evAny, evOp, evCall, putR, putA, Fr.ev, Fr.of, Fr.get, Fr.set, stable, junkA, junkL, resultsA, resA, same, Post_seq, Post_block, Post_some, c1, c2, c3, c4, c5, c6, e1, e5]
    · constructor
      · rintro rfl
        rw [e2, e6]
        simp [List.all_append] at e3 e7 ⊢
        exact ⟨e7, e3⟩
      · intro ha
        have hu : u = [] := by
          by_cases h : u = []
          · exact h
          · obtain ⟨y, c, rfl⟩ := snocU h
            have := e4 y c rfl
            rw [e2] at ha
            simp [this] at ha
        rw [hu] at e6
        have := congrArg List.length e6
        simp at this
        exact List.eq_nil_of_length_eq_zero (by omega)

theorem hasP_ok (s : List UInt8) (hs : s.length < 900) (S : St) : xHasP [.str s, .str [48]] S = some (.bool (decide (s.head? = some 48)), S) := by
  have h : xHasPL [.str s, .str [48]] S = some (.bool (decide (s.head? = some 48)), S) := by
    unfold xHasPL exM
    refine evF_post (F := stringslite_HasPrefix) rfl rfl ?_
    cases s with
    | nil =>
      have c1 : binA .geq (.int .i64 0) (.int .i64 1) = some (.bool false) := rfl
      simp [stringslite_HasPrefix, exM, orc, orcD, evF, evC_skip, evC_region, evC_cond, evC_exit, evC_ret, evOps, evOper, evAny, evOp, evCall, putR, putA, Fr.ev, Fr.of, Fr.get, Fr.set, stable, junkA, junkL, resultsA, resA, same, Post_seq, Post_block, Post_some, lenA, c1]
    | cons c r =>
      have c1 : binA .geq (.int .i64 ((c :: r).length : Int)) (.int .i64 1) = some (.bool true) := geq_t (by simp; omega)
      have c2 : slcStrA (.str (c :: r)) none (some (.int .i64 1)) = some (.str [c]) := by
        simp only [slcStrA, bounds_nh (n := (c :: r).length) (k := .i64) (u := 1) (by omega) (by simp; omega)]
        simp
      have c3 : binA .eql (.str [c]) (.str [48]) = some (.bool (decide ((c :: r).head? = some 48))) := by
        show some (AVal.bool ([c] == [48])) = _
        by_cases h : c = 48
        · subst h; simp
        · have : ([c] == [(48 : UInt8)]) = false := by simpa using h
          rw [this]; simp [h]
      generalize hw : c :: r = w at *
      generalize decide (w.head? = some 48) = b at *
      simp [stringslite_HasPrefix, exM, orc, orcD, evF, evC_skip, evC_region, evC_cond, evC_exit, evC_ret, evOps, evOper, evAny, evOp, evCall, putR, putA, Fr.ev, Fr.of, Fr.get, Fr.set, stable, junkA, junkL, resultsA, resA, same, Post_seq, Post_block, Post_some, lenA, c1, c2, c3]
  unfold xHasP exM
  refine evF_post (F := strings_HasPrefix) rfl rfl ?_
  generalize xHasPL = m at *
  generalize decide (s.head? = some 48) = b at *
  simp [strings_HasPrefix, exM, orc, orcD, evF, evC_skip, evC_region, evC_cond, evC_exit, evC_ret, evOps, evOper, evAny, evOp, evCall, putR, putA, Fr.ev, Fr.of, Fr.get, Fr.set, stable, junkA, junkL, resultsA, resA, same, Post_seq, Post_block, Post_some, h]

/-- What some digits spell. -/
def val (l : List UInt8) : Nat := l.foldl (fun n c => n * 10 + (c.toNat - 48)) 0
theorem foldl_lt : ∀ (l : List UInt8) (n k : Nat), l.all isD = true → n < 10 ^ k → l.foldl (fun n c => n * 10 + (c.toNat - 48)) n < 10 ^ (k + l.length)
  | [], n, k, _, h => by simpa using h
  | c :: l, n, k, ha, h => by
    simp only [List.all_cons, Bool.and_eq_true, isD, decide_eq_true_eq] at ha
    have := foldl_lt l (n * 10 + (c.toNat - 48)) (k + 1) ha.2 (by rw [Nat.pow_succ]; omega)
    rw [List.foldl_cons, List.length_cons]
    rwa [show k + (l.length + 1) = k + 1 + l.length by omega]
theorem val_lt {l : List UInt8} (h : l.all isD = true) : val l < 10 ^ l.length := by
  have := foldl_lt l 0 0 h (by simp); simpa [val] using this

theorem parse10 : ∀ (l : List UInt8) (n k : Nat), l.all isD = true → n < 10 ^ k → k + l.length ≤ 18 → Lib.parseUint10 n l = .ok (l.foldl (fun n c => n * 10 + (c.toNat - 48)) n)
  | [], n, k, _, _, _ => rfl
  | c :: l, n, k, ha, h, hk => by
    simp only [List.all_cons, Bool.and_eq_true, isD, decide_eq_true_eq] at ha
    simp only [List.length_cons] at hk
    have h10 : 10 ^ k ≤ 10 ^ 17 := Nat.pow_le_pow_right (by omega) (by omega)
    have hn : n < 100000000000000000 := by
      have : (10 : Nat) ^ 17 = 100000000000000000 := by decide
      omega
    rw [Lib.parseUint10, if_pos ha.1, if_neg (by omega), if_neg (by omega), parse10 l _ (k + 1) ha.2 (by rw [Nat.pow_succ]; omega) (by omega)]
    rfl

theorem atoi_digits {s : List UInt8} (h : s.all isD = true) (h0 : s ≠ []) (hl : s.length ≤ 4) : Lib.atoiAll s = .ok (val s : Int) := by
  cases s with
  | nil => exact absurd rfl h0
  | cons c r =>
    have hv := val_lt h
    have hv' : val (c :: r) < 10000 := Nat.lt_of_lt_of_le hv (Nat.pow_le_pow_right (by omega) hl)
    have hp := parse10 (c :: r) 0 0 h (by simp) (by omega)
    have hc : isD c = true := by simp only [List.all_cons, Bool.and_eq_true] at h; exact h.1
    simp only [isD, Bool.and_eq_true, decide_eq_true_eq] at hc
    have e1 : ¬ (c.toNat = 43 ∨ c.toNat = 45) := by omega
    have e2 : ¬ c.toNat = 45 := by omega
    simp only [Lib.atoiAll, if_neg e1, Lib.parseMag, List.cons_ne_nil, if_false, hp]
    have hp2 : (c :: r).foldl (fun n c => n * 10 + (c.toNat - 48)) 0 = val (c :: r) := rfl
    rw [hp2, if_neg (by omega), if_neg (by omega), if_neg e2]

/-- What a text counts: a number of 1 to 4 digits, or nought. -/
def countN (s : List UInt8) : Nat := if s.length ≤ 4 ∧ s.all isD = true ∧ s.head? ≠ some 48 then val s else 0

theorem count_ok (s : List UInt8) (hs : s.length < 900) (S : St) : mCount [.str s] S = some (.int .i64 (countN s : Int), S) := by
  have key : ∃ T, exM (orc [xTrim, xHasP, mAtoi]) policy_count 10 [.str s] [] = some (.int .i64 (countN s : Int), T) := by
    suffices h : ∃ T, evF (orc [xTrim, xHasP, mAtoi]) 10 policy_count [.str s] [] = some (.int .i64 (countN s : Int), T) ∧ True by
      obtain ⟨T, h, _⟩ := h; exact ⟨T, h⟩
    refine evF_postX (F := policy_count) (R := fun _ => True) rfl rfl ?_
    have hd : AVal.str [48, 49, 50, 51, 52, 53, 54, 55, 56, 57] = .str digs := rfl
    by_cases h4 : 4 < s.length
    · have c1 : binA .gtr (.int .i64 (s.length : Int)) (.int .i64 4) = some (.bool true) := gtr_t (by omega)
      have e : countN s = 0 := by unfold countN; rw [if_neg (by omega)]
      rw [e]
      simp [policy_count, exM, orc, orcD, evF, evC_skip, evC_region, evC_cond, evC_exit, evC_ret, evOps, evOper, evAny, evOp, evCall, putR, putA, Fr.ev, Fr.of, Fr.get, Fr.set, stable, junkA, junkL, resultsA, resA, same, Post_seq, Post_block, Post_some, lenA, c1]
    have c1 : binA .gtr (.int .i64 (s.length : Int)) (.int .i64 4) = some (.bool false) := gtr_f (by omega)
    obtain ⟨u, T, t1, t2⟩ := trim_ok s hs []
    by_cases hu : u = []
    rotate_left
    · have c2 : binA .neq (.str u) (.str []) = some (.bool true) := by
        have h : (u == []) = false := by simpa using hu
        show some (AVal.bool !(u == [])) = _
        rw [h]; rfl
      have e : countN s = 0 := by unfold countN; rw [if_neg (fun h => hu (t2.2 h.2.1))]
      rw [e]
      generalize xTrim = m at *
      generalize digs = dd at *
      simp [policy_count, exM, orc, orcD, evF, evC_skip, evC_region, evC_cond, evC_exit, evC_ret, evOps, evOper, evAny, evOp, evCall, putR, putA, Fr.ev, Fr.of, Fr.get, Fr.set, stable, junkA, junkL, resultsA, resA, same, Post_seq, Post_block, Post_some, lenA, c1, hd, t1, c2]
    have hall := t2.1 hu
    have c2 : binA .neq (.str u) (.str []) = some (.bool false) := by rw [hu]; rfl
    have c3 := hasP_ok s hs T
    by_cases hh : s.head? = some 48
    · have e : countN s = 0 := by unfold countN; rw [if_neg (fun h => h.2.2 hh)]
      rw [decide_eq_true hh] at c3
      rw [e]
      generalize xTrim = m at *
      generalize xHasP = m2 at *
      generalize digs = dd at *
      simp [policy_count, exM, orc, orcD, evF, evC_skip, evC_region, evC_cond, evC_exit, evC_ret, evOps, evOper, evAny, evOp, evCall, putR, putA, Fr.ev, Fr.of, Fr.get, Fr.set, stable, junkA, junkL, resultsA, resA, same, Post_seq, Post_block, Post_some, lenA, c1, hd, t1, c2, c3]
    · rw [decide_eq_false hh] at c3
      have e : countN s = val s := by unfold countN; rw [if_pos ⟨by omega, hall, hh⟩]
      have c4 : ∃ x, mAtoi [.str s] T = some (.tup [.int .i64 (val s : Int), x], T) := by
        by_cases h0 : s = []
        · subst h0; exact ⟨.junk, rfl⟩
        · refine ⟨.nili, ?_⟩
          simp only [mAtoi, atoi_digits hall h0 (by omega)]
          rw [if_pos (by omega)]
      obtain ⟨x, c4⟩ := c4
      rw [e]
      generalize xTrim = m at *
      generalize xHasP = m2 at *
      generalize mAtoi = m3 at *
      generalize digs = dd at *
      generalize (val s : Int) = z at *
      simp [policy_count, exM, orc, orcD, evF, evC_skip, evC_region, evC_cond, evC_exit, evC_ret, evOps, evOper, evAny, evOp, evCall, putR, putA, Fr.ev, Fr.of, Fr.get, Fr.set, stable, junkA, junkL, resultsA, resA, same, Post_seq, Post_block, Post_some, lenA, c1, hd, t1, c2, c3, c4]
  obtain ⟨T, h⟩ := key
  exact pureM_run rfl h rfl
end Am.Pol
end

/- Texts: the parts of a policy, and the part of a name. -/
section
namespace Am.Pol
open Am Go Am.Ir
set_option maxRecDepth 100000
attribute [local congr] Post_cg
attribute [local simp] ox oz kx kz og ogz kg kgz mo ai

/-- The names of the parts. -/
def nm : Nat → List UInt8
  | 0 => [108, 97, 115, 116]
  | 1 => [104, 111, 117, 114, 115]
  | 2 => [100, 97, 121, 115]
  | 3 => [119, 101, 101, 107, 115]
  | 4 => [109, 111, 110, 116, 104, 115]
  | _ => []
def partsC (b : Nat) : List AVal := [.str (nm 0), .ptr b 0 0, .str (nm 1), .ptr b 0 1, .str (nm 2), .ptr b 0 2, .str (nm 3), .ptr b 0 3, .str (nm 4), .ptr b 0 4]
theorem parts_at (b : Nat) {k : Nat} (hk : k < 5) : ((partsC b).drop (k * 2)).take 2 = [.str (nm k), .ptr b 0 k] ∧ (partsC b)[k * 2]? = some (.str (nm k)) ∧ (partsC b)[k * 2 + 1]? = some (.ptr b 0 k) := by
  obtain rfl | rfl | rfl | rfl | rfl : k = 0 ∨ k = 1 ∨ k = 2 ∨ k = 3 ∨ k = 4 := by omega
  all_goals exact ⟨rfl, rfl, rfl⟩

theorem parts_ok (b : Nat) (S : St) : xParts [.ptr b 0 0] S = some (.sl S.length 0 0 5 2, S ++ [.live 0 (partsC b)]) := by
  unfold xParts exM
  refine evF_post (F := policy_Policy_parts) rfl rfl ?_
  have c1 : fillA (List.replicate 5 [AVal.str [], .nilp]).flatten [(0, 2, .agg [.str (nm 0), .ptr b 0 0]), (2, 2, .agg [.str (nm 1), .ptr b 0 1]), (4, 2, .agg [.str (nm 2), .ptr b 0 2]), (6, 2, .agg [.str (nm 3), .ptr b 0 3]), (8, 2, .agg [.str (nm 4), .ptr b 0 4])] = some (partsC b) := by
    simp [fillA, cells?, splice, partsC, List.replicate]
  have c2 : ∀ (n : List UInt8) (k : Nat), fillA [.str [], .nilp] [(0, 1, .str n), (1, 1, .ptr b 0 k)] = some [.str n, .ptr b 0 k] := by
    intro n k; simp [fillA, cells?, splice]
  have e0 : AVal.str [108, 97, 115, 116] = .str (nm 0) := rfl
  have e1 : AVal.str [104, 111, 117, 114, 115] = .str (nm 1) := rfl
  have e2 : AVal.str [100, 97, 121, 115] = .str (nm 2) := rfl
  have e3 : AVal.str [119, 101, 101, 107, 115] = .str (nm 3) := rfl
  have e4 : AVal.str [109, 111, 110, 116, 104, 115] = .str (nm 4) := rfl
  simp only [List.replicate, List.flatten_cons, List.flatten_nil, List.cons_append, List.nil_append, List.append_nil] at c1
  simp [policy_Policy_parts, e0, e1, e2, e3, e4, exM, orc, orcD, evF, evC_skip, evC_region, evC_cond, evC_exit, evC_ret, evOps, evOper, evAny, evOp, evCall, putR, putA, Fr.ev, Fr.of, Fr.get, Fr.set, stable, junkA, junkL, resultsA, resA, same, Post_seq, Post_block, Post_some, faddrA, c1, c2]

/-- A name is held against a part's. -/
theorem p1_ok {T : St} {rn b k : Nat} {name n : List UInt8} (hn : T[rn]? = some (.live 0 [.str name])) :
    xP1 [.agg [.str n, .ptr b 0 k], .ptr rn 0 0] T = some (.bool (n == name), T ++ [.live 0 [.str n, .ptr b 0 k]]) := by
  unfold xP1 exM
  refine evF_post (F := policy_Parse_1) rfl rfl ?_
  have h1 : (T ++ [ABlock.live 0 [.str n, .ptr b 0 k]])[rn]? = some (.live 0 [.str name]) := by rw [List.getElem?_append_left (live_lt hn)]; exact hn
  have h2 : (T ++ [ABlock.live 0 [.str n, .ptr b 0 k]])[T.length]? = some (.live 0 [.str n, .ptr b 0 k]) := by simp
  have l1 : loadA none (.ptr rn 0 0) (T ++ [ABlock.live 0 [.str n, .ptr b 0 k]]) = some (.str name) := by rw [load_c h1]; rfl
  have l2 : loadA none (.ptr T.length 0 0) (T ++ [ABlock.live 0 [.str n, .ptr b 0 k]]) = some (.str n) := by rw [load_c h2]; rfl
  have c1 : binA .eql (.str n) (.str name) = some (.bool (n == name)) := rfl
  have c2 : cells? (.agg [.str n, .ptr b 0 k]) = some [.str n, .ptr b 0 k] := rfl
  generalize (n == name) = t at *
  simp [policy_Parse_1, exM, orc, orcD, evF, evC_skip, evC_region, evC_cond, evC_exit, evC_ret, evOps, evOper, evAny, evOp, evCall, putR, putA, Fr.ev, Fr.of, Fr.get, Fr.set, stable, junkA, junkL, resultsA, resA, same, Post_seq, Post_block, Post_some, faddrA, c1, c2, l1, l2]

/-- The first part from a place on that bears a name. -/
def findN (name : List UInt8) (a : Nat) : Nat → Option Nat
  | 0 => none
  | m + 1 => if nm a == name then some a else findN name (a + 1) m

/-- The place in what is left. -/
def relI (a : Nat) : Option Nat → Int
  | some k => (k : Int) - a
  | none => -1

theorem idxF_ok {T : St} {rp rn b p1 a : Nat} {name : List UInt8} (hp : T[rp]? = some (.live 0 (partsC b))) (hn : T[rn]? = some (.live 0 [.str name])) (ha : a ≤ 5) :
    ∃ U, xIdxF p1 [.sl rp 0 (a * 2) (5 - a) 2, .fn (.func p1) [] [.ptr rn 0 0]] T = some (.int .i64 (relI a (findN name a (5 - a))), U) ∧ Grown T U := by
  have key : ∀ f : Fr, f.get 0 = .sl rp 0 (a * 2) (5 - a) 2 → f.get 1 = .fn (.func p1) [] [.ptr rn 0 0] → f.get 7 = .int .i64 ((5 - a : Nat) : Int) → f.get 8 = .int .i64 0 → Post (evC (orcD [] [(p1, xP1)] []) 1000 slices_IndexFunc_s1 f T) fun e f' U => (e = .normal ∨ e = .ret) ∧ (Grown T U ∧
      ((e = .normal ∧ findN name a (5 - a) = none) ∨ (e = .ret ∧ f'.get 4 = .int .i64 (relI a (findN name a (5 - a)))))) := by
    intro f f0 f1 f7 f8
    refine loop_measR (O := orcD [] [(p1, xP1)] []) (k := 1000) (id := 0) (b := slices_IndexFunc_l0) (m := 5 - a)
      (I := fun c f U => ∃ i, i + c = 5 - a ∧ Grown T U ∧ f.get 0 = .sl rp 0 (a * 2) (5 - a) 2 ∧ f.get 1 = .fn (.func p1) [] [.ptr rn 0 0] ∧ f.get 7 = .int .i64 ((5 - a : Nat) : Int) ∧ f.get 8 = .int .i64 (i : Int) ∧ findN name a (5 - a) = findN name (a + i) c)
      (Q := fun e f' U => Grown T U ∧ ((e = .normal ∧ findN name a (5 - a) = none) ∨ (e = .ret ∧ f'.get 4 = .int .i64 (relI a (findN name a (5 - a)))))) ?_ (by omega) ⟨0, by omega, Grown.refl T, f0, f1, f7, f8, rfl⟩
    rintro c f U ⟨i, hc, hg, f0, f1, f7, f8, hf⟩
    by_cases hi : i < 5 - a
    · obtain ⟨c, rfl⟩ : ∃ c', c = c' + 1 := ⟨c - 1, by omega⟩
      have hpU : U[rp]? = some (.live 0 (partsC b)) := by rw [hg.old rp (live_lt hp)]; exact hp
      have hnU : U[rn]? = some (.live 0 [.str name]) := by rw [hg.old rn (live_lt hn)]; exact hn
      obtain ⟨q1, q2, q3⟩ := parts_at b (k := a + i) (by omega)
      have c1 : binA .lss (.int .i64 (i : Int)) (.int .i64 ((5 - a : Nat) : Int)) = some (.bool true) := lss_t (by omega)
      have c2 : binA .add (.int .i64 (i : Int)) (.int .i64 1) = some (.int .i64 ((i + 1 : Nat) : Int)) := add_is (by omega) (by omega) (by omega)
      have c3 : iaddrSA 2 (.sl rp 0 (a * 2) (5 - a) 2) (.int .i64 (i : Int)) = some (.ptr rp 0 ((a + i) * 2)) := by
        rw [iaS (by omega) (by omega), Int.toNat_natCast, Nat.add_mul]
      have c4 : loadA (some 2) (.ptr rp 0 ((a + i) * 2)) U = some (.agg [.str (nm (a + i)), .ptr b 0 (a + i)]) := by
        have hl : (partsC b).length = 10 := rfl
        simp only [loadA, hpU, if_true, partA]
        rw [if_pos (by omega), q1]
      have c5 := p1_ok (b := b) (k := a + i) (n := nm (a + i)) hnU
      have hfN : findN name (a + i) (c + 1) = if nm (a + i) == name then some (a + i) else findN name (a + i + 1) c := rfl
      obtain ⟨V, hV⟩ : ∃ V : St, V = U ++ [.live 0 [.str (nm (a + i)), .ptr b 0 (a + i)]] := ⟨_, rfl⟩
      have hgV : Grown T V := by rw [hV]; exact hg.trans (Grown.app U _)
      rw [← hV] at c5
      have c6 : (orcD [] [(p1, xP1)] []).dyn p1 = xP1 := by simp [orcD, pickD]
      by_cases hh : (nm (a + i) == name) = true
      · rw [hh] at c5
        rw [hfN, if_pos hh] at hf
        suffices hmid : Post (evC (orcD [] [(p1, xP1)] []) 1000 slices_IndexFunc_l0 f U) (fun e f' W => e = .ret ∧ W = V ∧ f'.get 4 = .int .i64 (i : Int)) by
          refine hmid.mono ?_
          rintro e f' W ⟨rfl, rfl, g4⟩
          refine .inr (.inr ⟨rfl, hgV, .inr ⟨rfl, ?_⟩⟩)
          rw [g4, hf]; simp only [relI]; congr 1; omega
        generalize xP1 = m at *
        generalize ((5 - a : Nat) : Int) = z1 at *
        generalize nm (a + i) = nn at *
        generalize (a + i) * 2 = z3 at *
        simp [slices_IndexFunc_l0, exM, orc, orcD, evF, evC_skip, evC_region, evC_cond, evC_exit, evC_ret, evOps, evOper, evAny, evOp, evCall, putR, putA, Fr.ev, Fr.of, Fr.get, Fr.set, stable, junkA, junkL, resultsA, resA, same, Post_seq, Post_block, Post_some, pickD, Fr.get_set, f0, f1, f7, f8, c1, c3, c4, c5]
      · have hh' : (nm (a + i) == name) = false := by simpa using hh
        rw [hh'] at c5
        rw [hfN, if_neg hh] at hf
        suffices hmid : Post (evC (orcD [] [(p1, xP1)] []) 1000 slices_IndexFunc_l0 f U) (fun e f' W => e = .normal ∧ W = V ∧ f'.get 0 = .sl rp 0 (a * 2) (5 - a) 2 ∧ f'.get 1 = .fn (.func p1) [] [.ptr rn 0 0] ∧ f'.get 7 = .int .i64 ((5 - a : Nat) : Int) ∧ f'.get 8 = .int .i64 ((i + 1 : Nat) : Int)) by
          refine hmid.mono ?_
          rintro e f' W ⟨rfl, rfl, g0, g1, g7, g8⟩
          exact .inl ⟨rfl, c, by omega, i + 1, by omega, hgV, g0, g1, g7, g8, hf⟩
        generalize ((i + 1 : Nat) : Int) = z2 at *
        generalize xP1 = m at *
        generalize ((5 - a : Nat) : Int) = z1 at *
        generalize nm (a + i) = nn at *
        generalize (a + i) * 2 = z3 at *
        simp [slices_IndexFunc_l0, exM, orc, orcD, evF, evC_skip, evC_region, evC_cond, evC_exit, evC_ret, evOps, evOper, evAny, evOp, evCall, putR, putA, Fr.ev, Fr.of, Fr.get, Fr.set, stable, junkA, junkL, resultsA, resA, same, Post_seq, Post_block, Post_some, pickD, Fr.get_set, f0, f1, f7, f8, c1, c2, c3, c4, c5]
    · have hc0 : c = 0 := by omega
      subst hc0
      have c1 : binA .lss (.int .i64 (i : Int)) (.int .i64 ((5 - a : Nat) : Int)) = some (.bool false) := lss_f (by omega)
      suffices hmid : Post (evC (orcD [] [(p1, xP1)] []) 1000 slices_IndexFunc_l0 f U) (fun e f' W => e = .exit 0 ∧ W = U) by
        refine hmid.mono ?_
        rintro e f' W ⟨rfl, rfl⟩
        exact .inr (.inl ⟨rfl, hg, .inl ⟨rfl, hf⟩⟩)
      generalize ((5 - a : Nat) : Int) = z1 at *
      simp [slices_IndexFunc_l0, exM, orc, orcD, evF, evC_skip, evC_region, evC_cond, evC_exit, evC_ret, evOps, evOper, evAny, evOp, evCall, putR, putA, Fr.ev, Fr.of, Fr.get, Fr.set, stable, junkA, junkL, resultsA, resA, same, Post_seq, Post_block, Post_some, Fr.get_set, f7, f8, c1]
  unfold xIdxF exM
  refine evF_postX (F := slices_IndexFunc) (R := Grown T) rfl rfl ?_
  generalize hR : Grown T = R at *
  have hl : lenA .sl (.sl rp 0 (a * 2) (5 - a) 2) = some (.int .i64 ((5 - a : Nat) : Int)) := rfl
  generalize ((5 - a : Nat) : Int) = z1 at *
  generalize orcD [] [(p1, xP1)] [] = O at *
  simp [slices_IndexFunc, slices_IndexFunc_t2, exM, orc, orcD, evF, evC_skip, evC_region, evC_cond, evC_exit, evC_ret, evOps, evOper, evAny, evOp, evCall, putR, putA, Fr.ev, Fr.of, Fr.get, Fr.set, stable, junkA, junkL, resultsA, resA, same, Post_seq, Post_block, Post_some, hl]
  refine (key _ ?_ ?_ ?_ ?_).mono ?_
  · simp [Fr.get]
  · simp [Fr.get]
  · simp [Fr.get]
  · simp [Fr.get]
  rintro e f' U ⟨_, hg, ⟨rfl, h⟩ | ⟨rfl, h⟩⟩
  · rw [h]
    simp [exM, orc, orcD, evF, evC_skip, evC_region, evC_cond, evC_exit, evC_ret, evOps, evOper, evAny, evOp, evCall, putR, putA, Fr.ev, Fr.of, Fr.get, Fr.set, stable, junkA, junkL, resultsA, resA, same, Post_seq, Post_block, Post_some, Fr.get_set, relI, hg]
  · simp [exM, orc, orcD, evF, evC_skip, evC_region, evC_cond, evC_exit, evC_ret, evOps, evOper, evAny, evOp, evCall, putR, putA, Fr.ev, Fr.of, Fr.get, Fr.set, stable, junkA, junkL, resultsA, resA, same, Post_seq, Post_block, Post_some, h, hg]
end Am.Pol
end

/- Texts: a round of Parse. -/
section
namespace Am.Pol
open Am Go Am.Ir
set_option maxRecDepth 100000
attribute [local congr] Post_cg
attribute [local simp] ox oz kx kz og ogz kg kgz mo ai

def oParse (sp p1 : Nat) : Orc := orcD [xParts, xSpl sp, xCut, xIdxF p1, mCount] [] [(sp, itSplit)]

/-- Numbers in cells. -/
def mc (l : List Int) : List AVal := l.map fun n => .int .i64 n
theorem mc_len (l : List Int) : (mc l).length = l.length := by simp [mc]
def zero5 : List Int := [0, 0, 0, 0, 0]

/-- What Parse holds between two words. -/
structure ParX (T : St) (a : Nat) (many : List Int) : Prop where
  b0 : T[0]? = some (.live 0 (mc zero5))
  b1 : T[1]? = some (.live 0 [.int .i64 0])
  b2 : T[2]? = some (.live 0 (mc many))
  b3 : T[3]? = some (.live 0 (partsC 2))
  b4 : T[4]? = some (.live 0 [.sl 3 0 (a * 2) (5 - a) 2])
  len : many.length = 5
  at5 : a ≤ 5
structure ParF (T : St) : Prop where
  b0 : T[0]? = some (.live 0 (mc zero5))
  b1 : T[1]? = some (.live 0 [.int .i64 3])

/-- What a word does. -/
def stepW (a : Nat) (many : List Int) (w : List UInt8) : Option (Nat × List Int) :=
  match findN (cutAt w 61).1 a (5 - a) with
  | some k => if countN (cutAt w 61).2.1 = 0 then none else some (k + 1, many.set k (countN (cutAt w 61).2.1))
  | none => none

theorem findN_ge (name : List UInt8) : ∀ (m a k : Nat), findN name a m = some k → a ≤ k ∧ k < a + m
  | 0, a, k, h => by cases h
  | m + 1, a, k, h => by
    unfold findN at h
    split at h
    · cases h; omega
    · have := findN_ge name m (a + 1) k h; omega

theorem cutAt_len (w : List UInt8) (c : UInt8) : (cutAt w c).1.length ≤ w.length ∧ (cutAt w c).2.1.length ≤ w.length := by
  unfold cutAt
  split
  · simp
  · simp; omega

structure BodF (f : Fr) : Prop where
  s2 : f.get 2 = .ptr 0 0 0
  s3 : f.get 3 = .ptr 1 0 0
  s4 : f.get 4 = .ptr 2 0 0
  s5 : f.get 5 = .ptr 4 0 0

theorem store1 {T : St} {r o : Nat} {cs : List AVal} {x : AVal} (h : T[r]? = some (.live 0 cs)) (ho : o < cs.length) (hx : cells? x = some [x]) : storeA 1 (.ptr r 0 o) x T = some (T.set r (.live 0 (cs.set o x))) := by
  have hs : splice cs o [x] = cs.set o x := by
    simp only [splice, List.length_singleton]
    rw [List.set_eq_take_append_cons_drop, if_pos ho]; simp
  simp only [storeA, hx, h, List.length_singleton]
  rw [if_pos ⟨trivial, trivial, by omega⟩, hs]

set_option maxHeartbeats 2000000 in
theorem body_ok {sp p1 a : Nat} {many : List Int} {T : St} {w : List UInt8} (h : ParX T a many) (hl : 9 ≤ T.length) (hw : w.length < 900) {f : Fr} (hf : BodF f) (f6 : f.get 6 = .str w) :
    Post (evC (oParse sp p1) 1000 (parseR p1) f T) fun e f' U => (∀ q, 5 ≤ q → q < T.length → U[q]? = T[q]?) ∧ T.length ≤ U.length ∧
      match stepW a many w with
      | some (a', many') => e = .normal ∧ ParX U a' many'
      | none => e = .ret ∧ ParF U := by
  obtain ⟨s2, s3, s4, s5⟩ := hf
  obtain ⟨cl1, cl2⟩ := cutAt_len w 61
  have c1 := cut_ok w 61 (by omega) T
  unfold stepW
  obtain ⟨name, hname⟩ : ∃ n, n = (cutAt w 61).1 := ⟨_, rfl⟩
  obtain ⟨dg, hdg⟩ : ∃ n, n = (cutAt w 61).2.1 := ⟨_, rfl⟩
  rw [← hname, ← hdg] at c1
  rw [← hname] at cl1
  rw [← hdg] at cl2
  rw [← hname, ← hdg]
  obtain ⟨T1, hT1⟩ : ∃ T1 : St, T1 = T ++ [.live 0 [.str name]] := ⟨_, rfl⟩
  have c2 : storeA 1 (.ptr T.length 0 0) (.str name) (T ++ [.live 0 [.str []]]) = some T1 := by
    have h1 : (T ++ [ABlock.live 0 [.str []]])[T.length]? = some (.live 0 [.str []]) := by simp
    rw [store1 h1 (by simp) rfl, hT1]; simp
  have g1 : Grown T T1 := by rw [hT1]; exact Grown.app T _
  have hn1 : T1[T.length]? = some (.live 0 [.str name]) := by rw [hT1]; simp
  have e3 : T1[3]? = some (.live 0 (partsC 2)) := by rw [g1.old 3 (by omega)]; exact h.b3
  have e4 : T1[4]? = some (.live 0 [.sl 3 0 (a * 2) (5 - a) 2]) := by rw [g1.old 4 (by omega)]; exact h.b4
  have l4 : loadA none (.ptr 4 0 0) T1 = some (.sl 3 0 (a * 2) (5 - a) 2) := by rw [load_c e4]; rfl
  obtain ⟨U, c3, g2⟩ := idxF_ok (p1 := p1) e3 hn1 h.at5
  have g3 := g1.trans g2
  have c4 := count_ok dg (by omega) U
  have hlU := g3.len
  have u0 : U[0]? = some (.live 0 (mc zero5)) := by rw [g3.old 0 (by omega)]; exact h.b0
  have u1 : U[1]? = some (.live 0 [.int .i64 0]) := by rw [g3.old 1 (by omega)]; exact h.b1
  have u2 : U[2]? = some (.live 0 (mc many)) := by rw [g3.old 2 (by omega)]; exact h.b2
  have u3 : U[3]? = some (.live 0 (partsC 2)) := by rw [g3.old 3 (by omega)]; exact h.b3
  have u4 : U[4]? = some (.live 0 [.sl 3 0 (a * 2) (5 - a) 2]) := by rw [g3.old 4 (by omega)]; exact h.b4
  -- where it is no part
  have bad : ∀ (P : Fr → Prop), True → True := fun _ h => h
  have d1 : storeA 5 (.ptr 0 0 0) (.agg [.int .i64 0, .int .i64 0, .int .i64 0, .int .i64 0, .int .i64 0]) U = some (U.set 0 (.live 0 (mc zero5))) := by
    simp [storeA, cells?, u0, mc, zero5, splice]
  have d2 : (U.set 0 (.live 0 (mc zero5)))[1]? = some (.live 0 [.int .i64 0]) := by rw [List.getElem?_set]; simpa using u1
  have d3 := store1 (o := 0) (x := .int .i64 3) d2 (by simp) rfl
  obtain ⟨F, hF⟩ : ∃ F : St, F = (U.set 0 (.live 0 (mc zero5))).set 1 (.live 0 [.int .i64 3]) := ⟨_, rfl⟩
  have d3' : storeA 1 (.ptr 1 0 0) (.int .i64 3) (U.set 0 (.live 0 (mc zero5))) = some F := by rw [d3, hF]; rfl
  have hFl : F.length = U.length := by rw [hF]; simp
  have hFq : ∀ q, 5 ≤ q → q < T.length → F[q]? = T[q]? := by
    intro q h1 h2
    rw [hF, List.getElem?_set, if_neg (by omega), List.getElem?_set, if_neg (by omega)]; exact g3.old q h2
  have hFF : ParF F := by
    refine ⟨?_, ?_⟩
    · rw [hF, List.getElem?_set, if_neg (by omega), List.getElem?_set_self (by omega)]
    · rw [hF, List.getElem?_set_self (by simp; omega)]
  have m0 : fillA [.int .i64 0, .int .i64 0, .int .i64 0, .int .i64 0, .int .i64 0] [] = some [.int .i64 0, .int .i64 0, .int .i64 0, .int .i64 0, .int .i64 0] := rfl
  cases hk : findN name a (5 - a) with
  | none =>
    rw [hk] at c3
    have c5 : binA .lss (.int .i64 (-1)) (.int .i64 0) = some (.bool true) := rfl
    have c3' : xIdxF p1 [.sl 3 0 (a * 2) (5 - a) 2, .fn (.func p1) [] [.ptr T.length 0 0]] T1 = some (.int .i64 (-1), U) := c3
    simp only []
    suffices hmid : Post (evC (oParse sp p1) 1000 (parseR p1) f T) (fun e f' V => e = .ret ∧ V = F) by
      refine hmid.mono ?_
      rintro e f' V ⟨rfl, rfl⟩
      exact ⟨hFq, by omega, rfl, hFF⟩
    unfold oParse
    generalize xCut = m1 at *
    generalize xIdxF p1 = m2 at *
    generalize mCount = m3 at *
    generalize (countN dg : Int) = z at *
    generalize mc zero5 = mz at *
    simp [parseR, exM, orc, orcD, evF, evC_skip, evC_region, evC_cond, evC_exit, evC_ret, evOps, evOper, evAny, evOp, evCall, putR, putA, Fr.ev, Fr.of, Fr.get, Fr.set, stable, junkA, junkL, resultsA, resA, same, Post_seq, Post_block, Post_some, Fr.get_set, s2, s3, s4, s5, f6, c1, c2, c3', c4, c5, l4, m0, d1, d3']
  | some k =>
    rw [hk] at c3
    obtain ⟨k1, k2⟩ := findN_ge name (5 - a) a k hk
    have c3' : xIdxF p1 [.sl 3 0 (a * 2) (5 - a) 2, .fn (.func p1) [] [.ptr T.length 0 0]] T1 = some (.int .i64 ((k - a : Nat) : Int), U) := by
      rw [c3]; simp only [relI]; rw [show ((k : Int) - (a : Int)) = ((k - a : Nat) : Int) by omega]
    have c5 : binA .lss (.int .i64 ((k - a : Nat) : Int)) (.int .i64 0) = some (.bool false) := lss_f (by omega)
    by_cases hz : countN dg = 0
    · have c6 : binA .eql (.int .i64 (countN dg : Int)) (.int .i64 0) = some (.bool true) := eql_t (by omega)
      simp only [if_pos hz]
      suffices hmid : Post (evC (oParse sp p1) 1000 (parseR p1) f T) (fun e f' V => e = .ret ∧ V = F) by
        refine hmid.mono ?_
        rintro e f' V ⟨rfl, rfl⟩
        exact ⟨hFq, by omega, rfl, hFF⟩
      unfold oParse
      generalize xCut = m1 at *
      generalize xIdxF p1 = m2 at *
      generalize mCount = m3 at *
      generalize ((k - a : Nat) : Int) = z2 at *
      generalize (countN dg : Int) = z at *
      generalize mc zero5 = mz at *
      simp [parseR, exM, orc, orcD, evF, evC_skip, evC_region, evC_cond, evC_exit, evC_ret, evOps, evOper, evAny, evOp, evCall, putR, putA, Fr.ev, Fr.of, Fr.get, Fr.set, stable, junkA, junkL, resultsA, resA, same, Post_seq, Post_block, Post_some, Fr.get_set, s2, s3, s4, s5, f6, c1, c2, c3', c4, c5, c6, l4, m0, d1, d3']
    · have c6 : binA .eql (.int .i64 (countN dg : Int)) (.int .i64 0) = some (.bool false) := eql_f (by omega)
      simp only [if_neg hz]
      have l4U : loadA none (.ptr 4 0 0) U = some (.sl 3 0 (a * 2) (5 - a) 2) := by rw [load_c u4]; rfl
      have c7 : iaddrSA 2 (.sl 3 0 (a * 2) (5 - a) 2) (.int .i64 ((k - a : Nat) : Int)) = some (.ptr 3 0 (k * 2)) := by
        rw [iaS (by omega) (by omega), Int.toNat_natCast, show a * 2 + (k - a) * 2 = k * 2 by omega]
      have c8 : loadA none (.ptr 3 0 (k * 2 + 1)) U = some (.ptr 2 0 k) := by
        rw [load_c u3, (parts_at 2 (k := k) (by omega)).2.2]
      have c9 := store1 (o := k) (x := .int .i64 (countN dg : Int)) u2 (by rw [mc_len, h.len]; omega) rfl
      have e1 : (mc many).set k (.int .i64 (countN dg : Int)) = mc (many.set k (countN dg : Int)) := by simp [mc, List.map_set]
      rw [e1] at c9
      obtain ⟨V, hV⟩ : ∃ V : St, V = U.set 2 (.live 0 (mc (many.set k (countN dg : Int)))) := ⟨_, rfl⟩
      rw [← hV] at c9
      have v4 : V[4]? = some (.live 0 [.sl 3 0 (a * 2) (5 - a) 2]) := by rw [hV, List.getElem?_set, if_neg (by omega)]; exact u4
      have l4V : loadA none (.ptr 4 0 0) V = some (.sl 3 0 (a * 2) (5 - a) 2) := by rw [load_c v4]; rfl
      have c10 : binA .add (.int .i64 ((k - a : Nat) : Int)) (.int .i64 1) = some (.int .i64 ((k - a + 1 : Nat) : Int)) := add_is (by omega) (by omega) (by omega)
      have c11 : slcSA 2 (.sl 3 0 (a * 2) (5 - a) 2) (some (.int .i64 ((k - a + 1 : Nat) : Int))) none = some (.sl 3 0 ((k + 1) * 2) (5 - (k + 1)) 2) := by
        simp only [slcSA, bounds_ln (n := 5 - a) (k := .i64) (l := ((k - a + 1 : Nat) : Int)) (by omega) (by omega), if_true, Int.toNat_natCast]
        rw [show a * 2 + (k - a + 1) * 2 = (k + 1) * 2 by omega, show 5 - a - (k - a + 1) = 5 - (k + 1) by omega]
      have c12 := store1 (o := 0) (x := .sl 3 0 ((k + 1) * 2) (5 - (k + 1)) 2) v4 (by simp) rfl
      obtain ⟨X, hX⟩ : ∃ X : St, X = V.set 4 (.live 0 [.sl 3 0 ((k + 1) * 2) (5 - (k + 1)) 2]) := ⟨_, rfl⟩
      have c12' : storeA 1 (.ptr 4 0 0) (.sl 3 0 ((k + 1) * 2) (5 - (k + 1)) 2) V = some X := by rw [c12, hX]; rfl
      have hXl : X.length = U.length := by rw [hX, hV]; simp
      have hXq : ∀ q, q ≠ 2 → q ≠ 4 → X[q]? = U[q]? := by
        intro q h1 h2
        rw [hX, List.getElem?_set, if_neg (Ne.symm h2), hV, List.getElem?_set, if_neg (Ne.symm h1)]
      suffices hmid : Post (evC (oParse sp p1) 1000 (parseR p1) f T) (fun e f' W => e = .normal ∧ W = X) by
        refine hmid.mono ?_
        rintro e f' W ⟨rfl, rfl⟩
        refine ⟨fun q h1 h2 => by rw [hXq q (by omega) (by omega)]; exact g3.old q h2, by omega, rfl, ?_⟩
        refine ⟨by rw [hXq 0 (by omega) (by omega)]; exact u0, by rw [hXq 1 (by omega) (by omega)]; exact u1, ?_, by rw [hXq 3 (by omega) (by omega)]; exact u3, ?_, by simp [h.len], by omega⟩
        · rw [hX, List.getElem?_set, if_neg (by omega), hV, List.getElem?_set_self (by omega)]
        · rw [hX, List.getElem?_set_self (by rw [hV]; simp; omega)]
      unfold oParse
      generalize xCut = m1 at *
      generalize xIdxF p1 = m2 at *
      generalize mCount = m3 at *
      generalize 5 - (k + 1) = rm at *
      generalize (k + 1) * 2 = of at *
      generalize ((k - a + 1 : Nat) : Int) = z3 at *
      generalize ((k - a : Nat) : Int) = z2 at *
      generalize (countN dg : Int) = z at *
      generalize mc zero5 = mz at *
      simp [parseR, exM, orc, orcD, evF, evC_skip, evC_region, evC_cond, evC_exit, evC_ret, evOps, evOper, evAny, evOp, evCall, putR, putA, Fr.ev, Fr.of, Fr.get, Fr.set, stable, junkA, junkL, resultsA, resA, same, Post_seq, Post_block, Post_some, faddrA, Fr.get_set, s2, s3, s4, s5, f6, c1, c2, c3', c4, c5, c6, l4, l4U, c7, c8, c9, l4V, c10, c11, c12']
end Am.Pol
end

