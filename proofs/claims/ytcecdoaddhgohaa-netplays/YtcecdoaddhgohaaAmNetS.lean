/- The net's functions: each model is the truth of its function in the given program. -/
import Derived.Test.YtcecdoaddhgohaaAmNet1
import Derived.Test.YtcecdoaddhgohaaAmTop
import Derived.Test.YtcecdoaddhgohaaAmIrNetOk
import Derived.Test.YtcecdoaddhgohaaRows
set_option linter.all false
namespace Am.Net
open Am Go Am.Ir Go.Proofs Go.Proofs.Ytcecdoaddhgohaa Go.RowKit
set_option maxRecDepth 100000

theorem own : ownKnob Try.prog.godebug = none := by kernel_rfl
theorem laidOut : laidOutB Try.prog = true := by kernel_rfl
theorem mix : Try.prog.follows .mixedOrders = true := Checked.mixed Try.checked

theorem sx {fs : List FuncId} {l : List Model} (hl : SoundAll Try.prog fs l) {g : FuncId} {fn : Func} (hg : Try.prog.funcs[g]? = some fn) {h : Nat → Nat → Bool} {F : AFun}
    (hc : compF Try.prog fs h fn = some F) (k : Nat) : Sound Try.prog g (exM (orc l) F k) :=
  Sound.of_ev (orcOk hl) mix hg hc fun _ _ _ h => ⟨k, h⟩

theorem sNew : Sound Try.prog 7 xNew := sx (fs := []) (l := []) trivial Try.func7 net_New_ok 10
theorem sLine : Sound Try.prog 16 xLine := sx (fs := []) (l := []) trivial Try.func16 net_line_ok 10
theorem sWaits : Sound Try.prog 11 xWaits := sx (fs := [16]) (l := [xLine]) ⟨sLine, trivial⟩ Try.func11 net_Waits_ok 10
theorem sClone : Sound Try.prog 17 xClone := sx (fs := []) (l := []) trivial Try.func17 bytes_Clone_ok 10
theorem sSend : Sound Try.prog 9 xSend := sx (fs := [11, 16, 17]) (l := [xWaits, xLine, xClone]) ⟨sWaits, sLine, sClone, trivial⟩ Try.func9 net_Send_ok 10
theorem sTake : Sound Try.prog 10 xTake := sx (fs := [11, 16, 17]) (l := [xWaits, xLine, xClone]) ⟨sWaits, sLine, sClone, trivial⟩ Try.func10 net_Take_ok 10
theorem sClear : Sound Try.prog 14 xClear := sx (fs := []) (l := []) trivial Try.func14 net_Clear_ok 10
theorem sAlive : Sound Try.prog 8 mAlive := Sound.pure 1 (sx (fs := [7, 9, 10]) (l := [xNew, xSend, xTake]) ⟨sNew, sSend, sTake, trivial⟩ Try.func8 net_alive_ok 10)

end Am.Net
