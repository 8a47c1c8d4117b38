/- The disk's functions, told in place: each model is the truth of its function in the given program. -/
import Derived.Test.YtlhbmnhiiicldaaAmDiskS
import Derived.Test.YtlhbmnhiiicldaaAmDiskI
set_option linter.all false
namespace Am.Disk
open Am Go Am.Ir Go.Proofs Go.Proofs.Ytlhbmnhiiicldaa Go.RowKit
set_option maxRecDepth 100000

theorem smClone : Sound Try.prog 25 mClone := Sound.tell 2 sClone
theorem syWrite : Sound Try.prog 9 yWrite := sx (fs := [23, 24, 25]) (l := [xHas, xSpend, mClone]) ⟨sHas, sSpend, smClone, trivial⟩ Try.func9 disk_Write_ok 10
theorem syDump : Sound Try.prog 17 yDump := sx (fs := [25]) (l := [mClone]) ⟨smClone, trivial⟩ Try.func17 disk_Dump_ok 10
theorem smRead : Sound Try.prog 14 mRead := Sound.tell 3 (Sound.exD (fs := [23, 26, 25]) (l := [xHas, xSector, mClone]) (ds := []) (is := [(nNewest, iNewest)]) ⟨sHas, sSector, smClone, trivial⟩ trivial ⟨siNewest, trivial⟩ mix Try.func14 disk_Read_ok 10)
theorem smSmall : Sound Try.prog 11 mSmall := Sound.tell 1 (sx (fs := []) (l := []) trivial Try.func11 disk_small_ok 10)
theorem smLsector : Sound Try.prog 12 mLsector := Sound.tell 2 (sx (fs := []) (l := []) trivial Try.func12 disk_lsector_ok 1000)
end Am.Disk
