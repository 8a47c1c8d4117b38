/- NetNil: where there is no net, nothing is sent, waits or comes, whatever the bytes and the fate; for every input, no condition. -/
import Derived.Test.YtcecdoaddhgohaaAmNet1
import Derived.Test.YtcecdoaddhgohaaAmTop
import Derived.Test.YtcecdoaddhgohaaAmIrNetOk
import Derived.Test.YtcecdoaddhgohaaRows
namespace Am.Net
open Am Go Am.Ir Go.Proofs Go.Proofs.Ytcecdoaddhgohaa Go.RowKit
set_option maxRecDepth 100000

theorem own : ownKnob Try.prog.godebug = none := by kernel_rfl
theorem laidOut : laidOutB Try.prog = true := by kernel_rfl
theorem mix : Try.prog.follows .mixedOrders = true := Checked.mixed Try.checked

theorem sx {fs : List FuncId} {l : List Model} (hl : SoundAll Try.prog fs l) {g : FuncId} {fn : Func} (hg : Try.prog.funcs[g]? = some fn) {h : Nat → Nat → Bool} {F : AFun}
    (hc : compF Try.prog fs h fn = some F) (k : Nat) : Sound Try.prog g (exM (orc l) F k) :=
  Sound.of_ev (orcOk hl) mix hg hc fun _ _ _ h => ⟨k, h⟩

theorem sNew : Sound Try.prog 7 xNew := sx (fs := []) (l := []) trivial Try.func7 net_New_ok 10
theorem sLine : Sound Try.prog 16 xLine := sx (fs := []) (l := []) trivial Try.func16 net_line_ok 10
theorem sWaits : Sound Try.prog 11 xWaits := sx (fs := [16]) (l := [xLine]) ⟨sLine, trivial⟩ Try.func11 net_Waits_ok 10
theorem sClone : Sound Try.prog 17 xClone := sx (fs := []) (l := []) trivial Try.func17 bytes_Clone_ok 10
theorem sSend : Sound Try.prog 9 xSend := sx (fs := [11, 16, 17]) (l := [xWaits, xLine, xClone]) ⟨sWaits, sLine, sClone, trivial⟩ Try.func9 net_Send_ok 10
theorem sTake : Sound Try.prog 10 xTake := sx (fs := [11, 16, 17]) (l := [xWaits, xLine, xClone]) ⟨sWaits, sLine, sClone, trivial⟩ Try.func10 net_Take_ok 10
theorem sClear : Sound Try.prog 14 xClear := sx (fs := []) (l := []) trivial Try.func14 net_Clear_ok 10
theorem sAlive : Sound Try.prog 8 mAlive := Sound.pure 1 (sx (fs := [7, 9, 10]) (l := [xNew, xSend, xTake]) ⟨sNew, sSend, sTake, trivial⟩ Try.func8 net_alive_ok 10)

theorem netNil_calls (x : AVal) (n : Int) : ACalls Try.prog 6 [x, .int .i64 n] [] fun v _ => v = .bool true :=
  ((sx (fs := [10, 14, 8, 9, 11]) (l := [xTake, xClear, mAlive, xSend, xWaits]) ⟨sTake, sClear, sAlive, sSend, sWaits, trivial⟩ Try.func6 NetNil_ok 10) _ _ _ _ (netNil x n)).2.mono fun _ _ h => h.1

theorem netNil_lifted (os : Os) (started : os.Started) (H : Type) (enc : TypeId × Value → H) :
    ReturnsInHanded {} Try.checked os 6 .any (Rows.netNilSpec.pre6 enc Try.prog Try.f6 Rows.netNilRow.domain false) (Rows.netNilSpec.post enc Try.prog Try.f6 false true false false) :=
  lifted (C := Try.checked) own started (by kernel_rfl) Try.func6
    (ChangeSpec.witness6 (enc := enc) (C := Try.checked) false ⟨#[], #[.slice none 0 0, .int .i64 0], []⟩ 8 (by kernel_rfl) (by kernel_rfl) (by kernel_rfl) (by kernel_rfl))
    rfl laidOut [.sl (.int .u8), .int .i64] (by kernel_rfl) rfl (by kernel_rfl)
    (fun ds h => by rcases ds with _ | ⟨a, _ | ⟨b, _ | ⟨c, ds⟩⟩⟩ <;> first | rfl | (exfalso; revert h; rw [Try.params6]; simp))
    (fun x _ => netNil_calls _ _)

theorem netNil_holds : Rows.NetNilSaid :=
  OpenClaim.holds_of_wide 6 Try.f6 rfl rfl rfl rfl rfl rfl rfl ⟨rfl, rfl, rfl, rfl, rfl⟩ rfl rfl rfl rfl rfl (by kernel_rfl) Try.func6 (by kernel_rfl)
    (of_decide_eq_true (by kernel_rfl)) (by unfold Func.isWrapper; first | (rw [if_pos (by decide +kernel)]; kernel_rfl) | (rw [if_neg (by decide +kernel)]; exact ⟨rfl, rfl⟩))
    (fun os started H enc _ => netNil_lifted os started H enc)
end Am.Net

namespace Go.Proofs.Ytcecdoaddhgohaa
theorem netNil_holds : Rows.NetNilSaid := Am.Net.netNil_holds
end Go.Proofs.Ytcecdoaddhgohaa
