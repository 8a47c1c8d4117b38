/- The disk's functions: each model is the truth of its function in the given program. -/
import Derived.Test.YtlhbmnhiiicldaaAmDisk1
import Derived.Test.YtlhbmnhiiicldaaAmTop
import Derived.Test.YtlhbmnhiiicldaaAmIrDiskOk
import Derived.Test.YtlhbmnhiiicldaaRows
set_option linter.all false
namespace Am.Disk
open Am Go Am.Ir Go.Proofs Go.Proofs.Ytlhbmnhiiicldaa Go.RowKit
set_option maxRecDepth 100000

theorem own : ownKnob Try.prog.godebug = none := by kernel_rfl
theorem laidOut : laidOutB Try.prog = true := by kernel_rfl
theorem mix : Try.prog.follows .mixedOrders = true := Checked.mixed Try.checked

theorem sx {fs : List FuncId} {l : List Model} (hl : SoundAll Try.prog fs l) {g : FuncId} {fn : Func} (hg : Try.prog.funcs[g]? = some fn) {h : Nat → Nat → Bool} {F : AFun}
    (hc : compF Try.prog fs h fn = some F) (k : Nat) : Sound Try.prog g (exM (orc l) F k) := Sound.ex hl mix hg hc k

theorem sNew : Sound Try.prog 7 xNew := sx (fs := []) (l := []) trivial Try.func7 disk_New_ok 10
theorem sLen : Sound Try.prog 21 xLen := sx (fs := []) (l := []) trivial Try.func21 disk_Len_ok 10
theorem sWaits : Sound Try.prog 16 xWaits := sx (fs := []) (l := []) trivial Try.func16 disk_Waits_ok 10
theorem sHas : Sound Try.prog 23 xHas := sx (fs := [21]) (l := [xLen]) ⟨sLen, trivial⟩ Try.func23 disk_has_ok 10
theorem sSector : Sound Try.prog 26 xSector := sx (fs := []) (l := []) trivial Try.func26 disk_sector_ok 10
theorem siNewest : SoundI Try.prog nNewest iNewest := SoundI.ex (fs := []) (l := []) trivial mix Try.func27 disk_newest_ok 1000
theorem sClone : Sound Try.prog 25 xClone := sx (fs := []) (l := []) trivial Try.func25 bytes_Clone_ok 10
theorem sRead : Sound Try.prog 14 xRead := Sound.exD (fs := [23, 26, 25]) (l := [xHas, xSector, xClone]) (ds := []) (is := [(nNewest, iNewest)]) ⟨sHas, sSector, sClone, trivial⟩ trivial ⟨siNewest, trivial⟩ mix Try.func14 disk_Read_ok 10
theorem sSpend : Sound Try.prog 24 xSpend := sx (fs := []) (l := []) trivial Try.func24 disk_spend_ok 10
theorem sWrite : Sound Try.prog 9 xWrite := sx (fs := [23, 24, 25]) (l := [xHas, xSpend, xClone]) ⟨sHas, sSpend, sClone, trivial⟩ Try.func9 disk_Write_ok 10
theorem sFlush : Sound Try.prog 10 xFlush := sx (fs := [24, 26]) (l := [xSpend, xSector]) ⟨sSpend, sSector, trivial⟩ Try.func10 disk_Flush_ok 1000
theorem sCrash : Sound Try.prog 13 xCrash := sx (fs := [26]) (l := [xSector]) ⟨sSector, trivial⟩ Try.func13 disk_Crash_ok 1000
theorem sRot : Sound Try.prog 22 xRot := sx (fs := [23, 26]) (l := [xHas, xSector]) ⟨sHas, sSector, trivial⟩ Try.func22 disk_Rot_ok 1000
theorem sFuse : Sound Try.prog 15 xFuse := sx (fs := []) (l := []) trivial Try.func15 disk_Fuse_ok 10
theorem sDump : Sound Try.prog 17 xDump := sx (fs := [25]) (l := [xClone]) ⟨sClone, trivial⟩ Try.func17 disk_Dump_ok 10
theorem sAlive : Sound Try.prog 8 mAlive := Sound.pure 1 (sx (fs := [7, 9, 14, 13]) (l := [xNew, xWrite, xRead, xCrash]) ⟨sNew, sWrite, sRead, sCrash, trivial⟩ Try.func8 disk_alive_ok 1000)
end Am.Disk
