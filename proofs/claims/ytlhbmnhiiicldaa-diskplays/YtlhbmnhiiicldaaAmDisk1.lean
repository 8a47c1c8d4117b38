/- The disk's functions: models; where there is no disk, nothing is done. -/
import Derived.Test.YtlhbmnhiiicldaaAmPure
import Derived.Test.YtlhbmnhiiicldaaAmIrDisk
import Derived.KernelRfl
set_option linter.all false
namespace Am
open Go

def isTrue : Option (AVal × St) → Bool
  | some (.bool true, _) => true
  | _ => false

/-- A live question, once answered, is always answered so. -/
theorem pureM_true {m : Model} {S : St} (h : isTrue (m [] []) = true) : pureM 1 m [] S = some (.bool true, S) := by
  unfold isTrue at h
  split at h
  · rename_i T hm
    simp [pureM, closedL, hm, deep]
  · simp at h

namespace Disk
open Am.Ir
set_option maxRecDepth 100000

/-- The number of 'newest' in the seat's program. -/
def nNewest : FuncId := 27

def xNew := exM (orc []) disk_New 10
def xLen := exM (orc []) disk_Len 10
def xWaits := exM (orc []) disk_Waits 10
def xHas := exM (orc [xLen]) disk_has 10
def xSector := exM (orc []) disk_sector 10
def iNewest : (Nat → Model) → Model := fun Y => exM { orc [] with yld := Y } disk_newest 1000
def xClone := exM (orc []) bytes_Clone 10
def xRead := exM (orcD [xHas, xSector, xClone] [] [(nNewest, iNewest)]) disk_Read 10
def xSpend := exM (orc []) disk_spend 10
def xWrite := exM (orc [xHas, xSpend, xClone]) disk_Write 10
def xFlush := exM (orc [xSpend, xSector]) disk_Flush 1000
def xCrash := exM (orc [xSector]) disk_Crash 1000
def xRot := exM (orc [xHas, xSector]) disk_Rot 1000
def xFuse := exM (orc []) disk_Fuse 10
def xDump := exM (orc [xClone]) disk_Dump 10
def xAlive := exM (orc [xNew, xWrite, xRead, xCrash]) disk_alive 1000
def mAlive : Model := pureM 1 xAlive

theorem alive_true : isTrue (xAlive [] []) = true := by kernel_rfl
theorem mAlive_eq (S : St) : mAlive [] S = some (.bool true, S) := pureM_true alive_true
end Disk
end Am
