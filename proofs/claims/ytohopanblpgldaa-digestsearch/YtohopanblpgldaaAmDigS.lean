/- Views: each model is the truth of its function in the given program. -/
import Derived.Test.YtohopanblpgldaaAmDig8
import Derived.Test.YtohopanblpgldaaAmTop
import Derived.Test.YtohopanblpgldaaAmIrDigestOk
import Derived.Test.YtohopanblpgldaaRows
set_option linter.all false
namespace Am.Dig
open Am Go Am.Ir Am.Sha Go.Proofs Go.Proofs.Ytohopanblpgldaa Go.RowKit
set_option maxRecDepth 100000

theorem own : ownKnob Try.prog.godebug = none := by kernel_rfl
theorem laidOut : laidOutB Try.prog = true := by kernel_rfl
theorem mix : Try.prog.follows .mixedOrders = true := Checked.mixed Try.checked

theorem sx {fs : List FuncId} {l : List Model} (hl : SoundAll Try.prog fs l) {g : FuncId} {fn : Func} (hg : Try.prog.funcs[g]? = some fn) {h : Nat → Nat → Bool} {F : AFun}
    (hc : compF Try.prog fs h fn = some F) (k : Nat) : Sound Try.prog g (exM (orc l) F k) := Sound.ex hl mix hg hc k
theorem snone (g : FuncId) : Sound Try.prog g (fun _ _ => none) := fun _ _ _ _ h => by simp at h

theorem sIsRange : Sound Try.prog 20 xIsRange := sx (fs := []) (l := []) trivial Try.func20 digest_isRange_ok 10
theorem sLen32 : Sound Try.prog 29 xLen32 := sx (fs := []) (l := []) trivial Try.func29 bits_Len32_ok 10
theorem sLen64 : Sound Try.prog 30 xLen64 := sx (fs := []) (l := []) trivial Try.func30 bits_Len64_ok 10
theorem sLen : Sound Try.prog 23 xLen := sx (fs := [29, 30]) (l := [xLen32, xLen64]) ⟨sLen32, sLen64, trivial⟩ Try.func23 bits_Len_ok 10
theorem sNew : Sound Try.prog 31 xNew := sx (fs := []) (l := []) trivial Try.func31 sha_New_ok 10
theorem sLoad : Sound Try.prog 40 mLoad := Sound.pure 2 (sx (fs := []) (l := []) trivial Try.func40 sha_load_ok 1000)
theorem sSteps : Sound Try.prog 41 mSteps := Sound.pure 2 (sx (fs := []) (l := []) trivial Try.func41 sha_steps_ok 10)
theorem sRot : Sound Try.prog 42 xRot := sx (fs := []) (l := []) trivial Try.func42 bits_RotateLeft32_ok 10
theorem sNext : Sound Try.prog 43 xNext := sx (fs := [42]) (l := [xRot]) ⟨sRot, trivial⟩ Try.func43 sha_wheel_next_ok 10
theorem sTake : Sound Try.prog 38 xTake := sx (fs := [40, 41, 42, 43]) (l := [mLoad, mSteps, xRot, xNext]) ⟨sLoad, sSteps, sRot, sNext, trivial⟩ Try.func38 sha_Hash_take_ok 1000
theorem sWrite : Sound Try.prog 32 xWrite := sx (fs := [38]) (l := [xTake]) ⟨sTake, trivial⟩ Try.func32 sha_Hash_Write_ok 100000
theorem sSum : Sound Try.prog 33 xSum := sx (fs := [32]) (l := [xWrite]) ⟨sWrite, trivial⟩ Try.func33 sha_Hash_Sum_ok 100000
theorem sAll : Sound Try.prog 26 mAll := Sound.tell 2 (sx (fs := [31, 32, 33]) (l := [xNew, xWrite, xSum]) ⟨sNew, sWrite, sSum, trivial⟩ Try.func26 sha_All_ok 10000)
theorem sTree : ∀ d, Sound Try.prog 21 (treeM d)
  | 0 => snone 21
  | d + 1 => Sound.tell 2 (sx (fs := [23, 21, 26]) (l := [xLen, treeM d, mAll]) ⟨sLen, sTree d, sAll, trivial⟩ Try.func21 sha_Tree_ok 10)
theorem sRange : Sound Try.prog 6 mRange := Sound.tell 3 (sx (fs := [20, 21]) (l := [xIsRange, treeM 5]) ⟨sIsRange, sTree 5, trivial⟩ Try.func6 digest_Range_ok 10)
theorem sTurn : Sound Try.prog 39 xTurn := sx (fs := []) (l := []) trivial Try.func39 r02_turn_ok 10
theorem sStart : Sound Try.prog 34 mStart := Sound.pure 2 (sx (fs := []) (l := []) trivial Try.func34 r02_start_ok 10)
theorem sSteps2 : Sound Try.prog 35 mSteps2 := Sound.pure 2 (sx (fs := []) (l := []) trivial Try.func35 r02_steps_ok 10)
theorem sPadded : Sound Try.prog 36 mPadded := Sound.tell 2 (sx (fs := []) (l := []) trivial Try.func36 r02_padded_ok 1000)
theorem sBlock : Sound Try.prog 37 mBlock := Sound.tell 2 (sx (fs := [39]) (l := [xTurn]) ⟨sTurn, trivial⟩ Try.func37 r02_block_ok 1000)
theorem sSum2 : Sound Try.prog 27 mSum2 := Sound.tell 2 (sx (fs := [34, 35, 36, 37]) (l := [mStart, mSteps2, mPadded, mBlock]) ⟨sStart, sSteps2, sPadded, sBlock, trivial⟩ Try.func27 r02_Sum_ok 100000)
theorem sJoined : Sound Try.prog 28 mJoined := Sound.tell 3 (sx (fs := []) (l := []) trivial Try.func28 r02_Joined_ok 1000)
theorem sTree2 : ∀ d, Sound Try.prog 22 (treeM2 d)
  | 0 => snone 22
  | d + 1 => Sound.tell 2 (sx (fs := [22, 28, 27]) (l := [treeM2 d, mJoined, mSum2]) ⟨sTree2 d, sJoined, sSum2, trivial⟩ Try.func22 r02_Tree_ok 100)
theorem sRange2 : Sound Try.prog 7 mRange2 := Sound.tell 3 (sx (fs := [22]) (l := [treeM2 5]) ⟨sTree2 5, trivial⟩ Try.func7 r20_Range_ok 10)
theorem sMiddle : Sound Try.prog 8 xMiddle := sx (fs := [20, 23]) (l := [xIsRange, xLen]) ⟨sIsRange, sLen, trivial⟩ Try.func8 digest_Middle_ok 10
theorem sMiddle2 : Sound Try.prog 9 xMiddle2 := sx (fs := []) (l := []) trivial Try.func9 r20_Middle_ok 100
theorem sHas : Sound Try.prog 11 mHas := Sound.tell 1 (sx (fs := []) (l := []) trivial Try.func11 digest_Has_ok 10)
theorem sHas2 : Sound Try.prog 12 mHas2 := Sound.tell 1 (sx (fs := []) (l := []) trivial Try.func12 r20_Has_ok 10)
theorem sDigest : Sound Try.prog 13 mDigest := Sound.tell 2 (sx (fs := [21]) (l := [treeM 5]) ⟨sTree 5, trivial⟩ Try.func13 manifest_Digest_ok 10)
theorem sLook : ∀ d, Sound Try.prog 24 (lookM d)
  | 0 => snone 24
  | d + 1 => Sound.exD (fs := [6, 8]) (l := [mRange, xMiddle]) (ds := [(24, lookM d)]) (is := []) ⟨sRange, sMiddle, trivial⟩ ⟨sLook d, trivial⟩ trivial mix Try.func24 digest_Search_1_ok 10
theorem sSearch : Sound Try.prog 15 mSearch := Sound.tell 4 (Sound.exD (fs := []) (l := []) (ds := [(24, lookM 5)]) (is := []) trivial ⟨sLook 5, trivial⟩ trivial mix Try.func15 digest_Search_ok 10)
theorem sAlive : Sound Try.prog 10 mAlive := Sound.pure 1 (sx (fs := [8, 15, 11]) (l := [xMiddle, mSearch, mHas]) ⟨sMiddle, sSearch, sHas, trivial⟩ Try.func10 l20_alive_ok 10)
theorem sSearchM2 : ∀ d, Sound Try.prog 25 (searchM2 d)
  | 0 => snone 25
  | d + 1 => Sound.tell 4 (sx (fs := [7, 9, 25]) (l := [mRange2, xMiddle2, searchM2 d]) ⟨sRange2, sMiddle2, sSearchM2 d, trivial⟩ Try.func25 r20_search_ok 10)
theorem sSearch2 : Sound Try.prog 16 mSearch2 := Sound.tell 4 (sx (fs := [25]) (l := [searchM2 5]) ⟨sSearchM2 5, trivial⟩ Try.func16 r20_Search_ok 10)
theorem sSame : Sound Try.prog 17 xSame := sx (fs := []) (l := []) trivial Try.func17 r09_SameInts_ok 1000
theorem sUnlike : Sound Try.prog 18 mUnlike := Sound.tell 2 (sx (fs := []) (l := []) trivial Try.func18 digest_Unlike_ok 1000)
theorem sUnlike2 : Sound Try.prog 19 mUnlike2 := Sound.tell 2 (sx (fs := []) (l := []) trivial Try.func19 r20_Unlike_ok 1000)
theorem sMixed : Sound Try.prog 14 mMixed := Sound.tell 2 (sx (fs := []) (l := []) trivial Try.func14 l20_mixed_ok 1000)

@[reducible] def viewT : DT := .arr 16 (.arr 32 (.int .u8))

theorem view_cells : ∀ (l : List (List Int)), (∀ x ∈ l, (DT.arr 32 (.int .u8)).Wf x) → ∃ vs : List (List UInt8), vs.length = l.length ∧ (∀ u ∈ vs, u.length = 32) ∧ l.flatMap (DT.arr 32 (.int .u8)).enc = vc vs
  | [], _ => ⟨[], rfl, by simp, rfl⟩
  | x :: l, h => by
    obtain ⟨vs, h1, h2, h3⟩ := view_cells l (fun y hy => h y (List.mem_cons_of_mem _ hy))
    obtain ⟨a, b⟩ := h x (List.mem_cons_self ..)
    obtain ⟨u, k1, k2⟩ := bytes_arg x (fun n hn => b n hn)
    refine ⟨u :: vs, by simp [h1], ?_, ?_⟩
    · intro w hw
      rcases List.mem_cons.1 hw with rfl | hw
      · rw [k1]; exact a
      · exact h2 w hw
    · have e : (DT.arr 32 (.int .u8)).enc x = bcells u := k2
      rw [List.flatMap_cons, h3, e]; rfl

theorem view_arg (x : List (List Int)) (h : viewT.Wf x) : ∃ vs, View vs ∧ viewT.one x = va vs := by
  obtain ⟨h1, h2⟩ := h
  obtain ⟨vs, k1, k2, k3⟩ := view_cells x h2
  exact ⟨vs, ⟨by rw [k1]; exact h1, k2⟩, congrArg AVal.agg k3⟩

theorem digestRange_calls (vs : List (List UInt8)) (hv : View vs) (lo hi : Int) (hlo : -9223372036854775808 ≤ lo ∧ lo ≤ 9223372036854775807) (hhi : -9223372036854775808 ≤ hi ∧ hi ≤ 9223372036854775807) :
    ACalls Try.prog 3 [va vs, .int .i64 lo, .int .i64 hi] [] fun v _ => v = .bool true := by
  obtain ⟨T, hT⟩ := digestRange hv lo hi hlo hhi
  exact ((sx (fs := [6, 7, 8, 9, 10, 11, 12, 13]) (l := [mRange, mRange2, xMiddle, xMiddle2, mAlive, mHas, mHas2, mDigest])
    ⟨sRange, sRange2, sMiddle, sMiddle2, sAlive, sHas, sHas2, sDigest, trivial⟩ Try.func3 l20_DigestRange_ok 10) _ _ _ _ hT).2.mono fun _ _ h => h.1
theorem digestSearch_calls (vs ws : List (List UInt8)) (hv : View vs) (hw : View ws) (mask : Int) : ACalls Try.prog 4 [va vs, va ws, .int .i64 mask] [] fun v _ => v = .bool true := by
  obtain ⟨T, hT⟩ := digestSearch hv hw mask
  exact ((sx (fs := [14, 15, 16, 10, 17, 18, 19]) (l := [mMixed, mSearch, mSearch2, mAlive, xSame, mUnlike, mUnlike2])
    ⟨sMixed, sSearch, sSearch2, sAlive, sSame, sUnlike, sUnlike2, trivial⟩ Try.func4 l20_DigestSearch_ok 10) _ _ _ _ hT).2.mono fun _ _ h => h.1
theorem digestFound_calls (vs ws : List (List UInt8)) (hv : View vs) (hw : View ws) (mask : Int) : ACalls Try.prog 5 [va vs, va ws, .int .i64 mask] [] fun v _ => v = .bool true := by
  obtain ⟨T, hT⟩ := digestFound hv hw mask
  exact ((sx (fs := [14, 15, 10, 18]) (l := [mMixed, mSearch, mAlive, mUnlike])
    ⟨sMixed, sSearch, sAlive, sUnlike, trivial⟩ Try.func5 l20_DigestFound_ok 100) _ _ _ _ hT).2.mono fun _ _ h => h.1
end Am.Dig
