/- The disk's functions where there is no disk. -/
import Derived.Test.YtlhbmnhiiicldaaAmDisk1
set_option linter.all false
namespace Am.Disk
open Am Go Am.Ir
set_option maxRecDepth 100000

theorem read_nil (i : Int) (S : St) : ∃ T, xRead [.nilp, .int .i64 i] S = some (.tup [.nils, .int .i64 8], S ++ T) := by
  refine ⟨[.live 0 [.int .i64 i], .live 0 [.nils], .live 0 [.int .i64 8]], ?_⟩
  simp [xRead, disk_Read, exM, orc, orcD, evF, evC, evOps, evOper, evAny, evOp, evCall, putR, putA, Fr.ev, Fr.of, Fr.get, Fr.set, stable, resultsA, resA, same, eq2, marks, markBase, shut, cells?, storeA, splice, loadA, partA]

theorem write_nil (i : Int) (b : AVal) (S : St) : xWrite [.nilp, .int .i64 i, b] S = some (.int .i64 8, S) := by
  simp [xWrite, disk_Write, exM, orc, orcD, evF, evC, evOps, evOper, evAny, evOp, evCall, putR, putA, Fr.ev, Fr.of, Fr.get, Fr.set, stable, resultsA, resA, same, eq2]

theorem flush_nil (S : St) : xFlush [.nilp] S = some (.int .i64 8, S) := by
  simp [xFlush, disk_Flush, exM, orc, orcD, evF, evC, evOps, evOper, evAny, evOp, evCall, putR, putA, Fr.ev, Fr.of, Fr.get, Fr.set, stable, resultsA, resA, same, eq2]

theorem rot_nil (i : Int) (b : AVal) (S : St) : xRot [.nilp, .int .i64 i, b] S = some (.int .i64 8, S) := by
  simp [xRot, disk_Rot, exM, orc, orcD, evF, evC, evOps, evOper, evAny, evOp, evCall, putR, putA, Fr.ev, Fr.of, Fr.get, Fr.set, stable, resultsA, resA, same, eq2]

theorem crash_nil (k : AVal) (S : St) : xCrash [.nilp, k] S = some (.tup [], S) := by
  simp [xCrash, disk_Crash, exM, orc, orcD, evF, evC, evOps, evOper, evAny, evOp, evCall, putR, putA, Fr.ev, Fr.of, Fr.get, Fr.set, stable, resultsA, resA, same, eq2]

theorem fuse_nil (i : Int) (S : St) : xFuse [.nilp, .int .i64 i] S = some (.tup [], S) := by
  simp [xFuse, disk_Fuse, exM, orc, orcD, evF, evC, evOps, evOper, evAny, evOp, evCall, putR, putA, Fr.ev, Fr.of, Fr.get, Fr.set, stable, resultsA, resA, same, eq2, binA]

theorem len_nil (S : St) : xLen [.nilp] S = some (.int .i64 0, S) := by
  simp [xLen, disk_Len, exM, orc, orcD, evF, evC, evOps, evOper, evAny, evOp, evCall, putR, putA, Fr.ev, Fr.of, Fr.get, Fr.set, stable, resultsA, resA, same, eq2]

theorem waits_nil (S : St) : xWaits [.nilp] S = some (.int .i64 0, S) := by
  simp [xWaits, disk_Waits, exM, orc, orcD, evF, evC, evOps, evOper, evAny, evOp, evCall, putR, putA, Fr.ev, Fr.of, Fr.get, Fr.set, stable, resultsA, resA, same, eq2]

theorem dump_nil (S : St) : xDump [.nilp] S = some (.nils, S) := by
  simp [xDump, disk_Dump, exM, orc, orcD, evF, evC, evOps, evOper, evAny, evOp, evCall, putR, putA, Fr.ev, Fr.of, Fr.get, Fr.set, stable, resultsA, resA, same, eq2]

theorem diskNil (i : Int) (b : AVal) (n : Nat) (hb : lenA .sl b = some (.int .i64 n)) : ∃ T, evF (orc [mAlive, xRead, xWrite, xFlush, xRot, xCrash, xFuse, xLen, xWaits, xDump]) 10 DiskNil [.int .i64 i, b] [] = some (.bool true, T) := by
  obtain ⟨T, hT⟩ := read_nil i []
  simp only [List.nil_append] at hT
  have len_nils : lenA .sl .nils = some (.int .i64 0) := rfl
  by_cases h : 300 < n
  · have h' : (300 : Int) < n := by omega
    refine ⟨[], ?_⟩
    simp [DiskNil, exM, orc, orcD, evF, evC, evOps, evOper, evAny, evOp, evCall, putR, putA, Fr.ev, Fr.of, Fr.get, Fr.set, stable, resultsA, resA, same, hb, h', mAlive_eq, binA, intBin]
  · have h' : ¬ (300 : Int) < n := by omega
    refine ⟨T, ?_⟩
    simp [DiskNil, exM, orc, orcD, evF, evC, evOps, evOper, evAny, evOp, evCall, putR, putA, Fr.ev, Fr.of, Fr.get, Fr.set, stable, resultsA, resA, same, hb, h', mAlive_eq, hT, write_nil, flush_nil, rot_nil, crash_nil, fuse_nil, len_nil, waits_nil, dump_nil, binA, intBin, len_nils]
end Am.Disk
