/- The net's functions: models, and what they do where there is no net. -/
import Derived.Test.YtcecdoaddhgohaaAmPure
import Derived.Test.YtcecdoaddhgohaaAmIrNet
import Derived.KernelRfl
set_option linter.all false
namespace Am
open Go

/-- A model that runs the code at a given fuel. -/
def exM (O : Orc) (F : AFun) (k : Nat) : Model := fun args S => evF O k F args S

def isTrue : Option (AVal × St) → Bool
  | some (.bool true, _) => true
  | _ => false

/-- A live question, once answered, is always answered so. -/
theorem pureM_true {m : Model} {S : St} (h : isTrue (m [] []) = true) : pureM 1 m [] S = some (.bool true, S) := by
  unfold isTrue at h
  split at h
  · rename_i T hm
    simp [pureM, closedL, hm, deep]
  · simp at h

namespace Net
open Am.Ir
set_option maxRecDepth 100000

def xNew := exM (orc []) net_New 10
def xLine := exM (orc []) net_line 10
def xWaits := exM (orc [xLine]) net_Waits 10
def xClone := exM (orc []) bytes_Clone 10
def xSend := exM (orc [xWaits, xLine, xClone]) net_Send 10
def xTake := exM (orc [xWaits, xLine, xClone]) net_Take 10
def xClear := exM (orc []) net_Clear 10
def xAlive := exM (orc [xNew, xSend, xTake]) net_alive 10
def mAlive : Model := pureM 1 xAlive

theorem alive_true : isTrue (xAlive [] []) = true := by kernel_rfl
theorem mAlive_eq (S : St) : mAlive [] S = some (.bool true, S) := pureM_true alive_true

theorem take_nil (b : Bool) (n : Int) (S : St) : xTake [.nilp, .bool b, .int .i64 n] S = some (.tup [.nils, .bool false], S) := by
  cases b <;> simp [xTake, xWaits, exM, orc, net_Take, net_Waits, evF, evC, evOps, evOper, evAny, evOp, evCall, putR, putA, Fr.ev, Fr.of, Fr.get, Fr.set, stable, resultsA, resA, same, eq2, binA, intBin]

theorem send_nil (b : Bool) (x : AVal) (S : St) : xSend [.nilp, .bool b, x] S = some (.int .i64 1, S) := by
  cases b <;> simp [xSend, exM, orc, net_Send, evF, evC, evOps, evOper, evAny, evOp, evCall, putR, putA, Fr.ev, Fr.of, Fr.get, Fr.set, stable, resultsA, resA, same, eq2, binA, intBin]

theorem waits_nil (b : Bool) (S : St) : xWaits [.nilp, .bool b] S = some (.int .i64 0, S) := by
  cases b <;> simp [xWaits, exM, orc, net_Waits, evF, evC, evOps, evOper, evAny, evOp, evCall, putR, putA, Fr.ev, Fr.of, Fr.get, Fr.set, stable, resultsA, resA, same, eq2, binA, intBin]

theorem clear_nil (S : St) : xClear [.nilp] S = some (.tup [], S) := by
  simp [xClear, exM, orc, net_Clear, evF, evC, evOps, evOper, evAny, evOp, evCall, putR, putA, Fr.ev, Fr.of, Fr.get, Fr.set, stable, resultsA, resA, same, eq2, binA, intBin]

theorem netNil (x : AVal) (n : Int) : evF (orc [xTake, xClear, mAlive, xSend, xWaits]) 10 NetNil [x, .int .i64 n] [] = some (.bool true, []) := by
  simp [orc, NetNil, evF, evC, evOps, evOper, evAny, evOp, evCall, putR, putA, Fr.ev, Fr.of, Fr.get, Fr.set, stable, resultsA, resA, same, take_nil, clear_nil, send_nil, waits_nil, mAlive_eq, lenA, binA, intBin, unA]
end Net
end Am
