/- Faults: each model is the truth of its function in the given program. -/
import Derived.Test.YtgkkggfhnlhbiaaDoorAmFault5
import Derived.Test.YtgkkggfhnlhbiaaDoorAmFas3
import Derived.Test.YtgkkggfhnlhbiaaDoorAmIrFaultOk
import Derived.Test.YtgkkggfhnlhbiaaDoorChecked
set_option linter.all false
namespace Am.Fault
open Am Go Am.Ir Go.Proofs
set_option maxRecDepth 100000

theorem mix : Tryd.prog.follows .mixedOrders = true := Checked.mixed Tryd.checked
theorem sx {fs : List FuncId} {l : List Model} (hl : SoundAll Tryd.prog fs l) {g : FuncId} {fn : Func} (hg : Tryd.prog.funcs[g]? = some fn) {h : Nat → Nat → Bool} {F : AFun}
    (hc : compF Tryd.prog fs h fn = some F) (k : Nat) : Sound Tryd.prog g (exM (orc l) F k) := Sound.ex hl mix hg hc k

theorem sOf : Sound Tryd.prog 19 mOf := Sound.pure 100 (sx (fs := []) (l := []) trivial Tryd.func19 fault_Of_ok 10)
theorem sWrap : Sound Tryd.prog 9 mWrap := Sound.pure 100 (sx (fs := []) (l := []) trivial Tryd.func9 fault_Wrap_ok 10)
theorem sCode : Sound Tryd.prog 10 mCode := Sound.pure 100 (sx (fs := []) (l := []) trivial Tryd.func10 fault_Code_ok 10)
theorem sLUnwrap : Sound Tryd.prog 56 mLUnwrap := Sound.pure 100 (sx (fs := []) (l := []) trivial Tryd.func56 fault_link_Unwrap_ok 10)
theorem sLIs : Sound Tryd.prog 55 mLIs := Sound.pure 100 (sx (fs := []) (l := []) trivial Tryd.func55 fault_link_Is_ok 10)
theorem sUnwrap : Sound Tryd.prog 30 mUnwrap := Sound.pure 100 (sx (fs := [56]) (l := [mLUnwrap]) ⟨sLUnwrap, trivial⟩ Tryd.func30 errors_Unwrap_ok 10)
theorem sNext : Sound Tryd.prog 26 mNext := Sound.pure 100 (sx (fs := [30, 29]) (l := [mUnwrap, mAs]) ⟨sUnwrap, sAs, trivial⟩ Tryd.func26 fault_next_ok 10)
theorem sEach {k : FuncId} {d : Model} (hd : Sound Tryd.prog k d) : Sound Tryd.prog 20 (xEach k d) :=
  Sound.exD (fs := [26]) (l := [mNext]) (ds := [(k, d)]) (is := []) ⟨sNext, trivial⟩ ⟨hd, trivial⟩ trivial mix Tryd.func20 fault_each_ok 1000
theorem sText1 : Sound Tryd.prog 23 xText1 := sx (fs := []) (l := []) trivial Tryd.func23 fault_Text_1_ok 10
theorem sRoot1 : Sound Tryd.prog 21 xRoot1 := sx (fs := []) (l := []) trivial Tryd.func21 fault_Root_1_ok 10
theorem sDepth1 : Sound Tryd.prog 22 xDepth1 := sx (fs := []) (l := []) trivial Tryd.func22 fault_Depth_1_ok 10
theorem sName : Sound Tryd.prog 17 mName := Sound.pure 3 (sx (fs := []) (l := []) trivial Tryd.func17 fault_Name_ok 10)
theorem sNames : Sound Tryd.prog 25 mNames := Sound.pure 3 (sx (fs := []) (l := []) trivial Tryd.func25 r03_Names_ok 10)
theorem sName2 : Sound Tryd.prog 18 mName2 := Sound.pure 3 (sx (fs := [25]) (l := [mNames]) ⟨sNames, trivial⟩ Tryd.func18 r03_Name_ok 10)
theorem sText : Sound Tryd.prog 13 mText := Sound.pure 3 (sx (fs := [20, 17]) (l := [xEach 23 xText1, mName]) ⟨sEach sText1, sName, trivial⟩ Tryd.func13 fault_Text_ok 10)
theorem sRoot : Sound Tryd.prog 11 mRoot := Sound.pure 3 (sx (fs := [20]) (l := [xEach 21 xRoot1]) ⟨sEach sRoot1, trivial⟩ Tryd.func11 fault_Root_ok 10)
theorem sDepth : Sound Tryd.prog 12 mDepth := Sound.pure 3 (sx (fs := [20]) (l := [xEach 22 xDepth1]) ⟨sEach sDepth1, trivial⟩ Tryd.func12 fault_Depth_ok 10)
theorem sErr : Sound Tryd.prog 14 mErr := Sound.pure 3 (sx (fs := [13]) (l := [mText]) ⟨sText, trivial⟩ Tryd.func14 fault_Fault_Error_ok 10)
theorem sIsE : Sound Tryd.prog 28 mIsE := Sound.pure 3 (sx (fs := [55, 56]) (l := [mLIs, mLUnwrap]) ⟨sLIs, sLUnwrap, trivial⟩ Tryd.func28 errors_is_ok 1000)
theorem sIs' : Sound Tryd.prog 24 mIs := sIs sIsE
theorem sHas : Sound Tryd.prog 16 mHas := Sound.pure 3 (sx (fs := [24]) (l := [mIs]) ⟨sIs', trivial⟩ Tryd.func16 fault_Has_ok 10)
theorem sSmall : Sound Tryd.prog 6 xSmall := sx (fs := []) (l := []) trivial Tryd.func6 l03_small_ok 100
theorem sMade : Sound Tryd.prog 8 xMade := sx (fs := [19, 9]) (l := [mOf, mWrap]) ⟨sOf, sWrap, trivial⟩ Tryd.func8 l03_made_ok 100
theorem sText2 : Sound Tryd.prog 15 xText2 := sx (fs := [18]) (l := [mName2]) ⟨sName2, trivial⟩ Tryd.func15 r03_Text_ok 1000
theorem sAlive : Sound Tryd.prog 7 mAlive := Sound.pure 1 (sx (fs := [19, 9, 13, 10]) (l := [mOf, mWrap, mText, mCode]) ⟨sOf, sWrap, sText, sCode, trivial⟩ Tryd.func7 l03_alive_ok 10)

theorem faultHas_calls {W : World} (hW : WOk Tryd.prog W) {x : AVal} {l : List (List UInt8)} (hx : OpsV x l) (hll : l.length ≤ 9223372036854775807) (c n : Int) :
    ACalls Tryd.prog W 5 [x, .int .i64 c, .int .i64 n] [] fun v _ => v = .bool true :=
  ((sx (fs := [6, 7, 8, 16, 17, 18]) (l := [xSmall, mAlive, xMade, mHas, mName, mName2]) ⟨sSmall, sAlive, sMade, sHas, sName, sName2, trivial⟩ Tryd.func5 l03_FaultHas_ok 100) W hW _ _ _ _ (faultHas hx hll c n)).2.mono fun _ _ h => h.1
theorem faultWrapped_calls {W : World} (hW : WOk Tryd.prog W) {x : AVal} {l : List (List UInt8)} (hx : OpsV x l) (hll : l.length ≤ 9223372036854775807) (op : List UInt8) (hop : op.length ≤ 9223372036854775807) (c : Int) :
    ACalls Tryd.prog W 3 [x, .str op, .int .i64 c] [] fun v _ => v = .bool true :=
  ((sx (fs := [6, 7, 8, 9, 10, 11, 12, 13]) (l := [xSmall, mAlive, xMade, mWrap, mCode, mRoot, mDepth, mText]) ⟨sSmall, sAlive, sMade, sWrap, sCode, sRoot, sDepth, sText, trivial⟩ Tryd.func3 l03_FaultWrapped_ok 100) W hW _ _ _ _ (faultWrapped hx hll op hop c)).2.mono fun _ _ h => h.1
theorem faultTold_calls {W : World} (hW : WOk Tryd.prog W) {x : AVal} {l : List (List UInt8)} (hx : OpsV x l) (hll : l.length ≤ 9223372036854775807) (root : List UInt8) (hroot : root.length ≤ 9223372036854775807) (c : Int) :
    ACalls Tryd.prog W 4 [.str root, x, .int .i64 c] [] fun v _ => v = .bool true := by
  obtain ⟨T, hT⟩ := faultTold hx hll root hroot c
  exact ((sx (fs := [6, 7, 8, 10, 13, 11, 12, 14, 15]) (l := [xSmall, mAlive, xMade, mCode, mText, mRoot, mDepth, mErr, xText2]) ⟨sSmall, sAlive, sMade, sCode, sText, sRoot, sDepth, sErr, sText2, trivial⟩ Tryd.func4 l03_FaultTold_ok 100) W hW _ _ _ _ hT).2.mono fun _ _ h => h.1
end Am.Fault
