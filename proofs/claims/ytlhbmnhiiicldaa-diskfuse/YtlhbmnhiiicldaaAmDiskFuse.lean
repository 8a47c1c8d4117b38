/- DiskFuse: with a fuse of f just f writes are done, then all is off till a crash; a crash that keeps nothing leaves what was flushed; for every input, no condition. -/
import Derived.Test.YtlhbmnhiiicldaaAmDiskS2
set_option linter.all false
namespace Am.Disk
open Am Go Am.Ir Go.Proofs Go.Proofs.Ytlhbmnhiiicldaa Go.RowKit
set_option maxRecDepth 100000

theorem diskFuse_calls (fv n : Int) (hf : fv ≤ 9223372036854775807) : ACalls Try.prog 4 [.int .i64 fv, .int .i64 n] [] fun v _ => v = .bool true := by
  obtain ⟨T, hT⟩ := diskFuse fv n hf
  exact ((sx (fs := [7, 15, 9, 14, 16, 13, 8, 17]) (l := [xNew, xFuse, yWrite, mRead, xWaits, xCrash, mAlive, yDump])
    ⟨sNew, sFuse, syWrite, smRead, sWaits, sCrash, sAlive, syDump, trivial⟩ Try.func4 DiskFuse_ok 1000) _ _ _ _ hT).2.mono fun _ _ h => h.1

theorem diskFuse_lifted (os : Os) (started : os.Started) (H : Type) (enc : TypeId × Value → H) :
    ReturnsInHanded {} Try.checked os 4 .any (Rows.diskFuseSpec.pre6 enc Try.prog Try.f4 Rows.diskFuseRow.domain false) (Rows.diskFuseSpec.post enc Try.prog Try.f4 false true false false) :=
  lifted (C := Try.checked) own started (by kernel_rfl) Try.func4
    (ChangeSpec.witness6 (enc := enc) (C := Try.checked) false ⟨#[], #[.int .i64 0, .int .i64 0], []⟩ 8 (by kernel_rfl) (by kernel_rfl) (by kernel_rfl) (by kernel_rfl))
    rfl laidOut [.int .i64, .int .i64] (by kernel_rfl) rfl (by kernel_rfl)
    (fun ds h => by rcases ds with _ | ⟨a, _ | ⟨b, _ | ⟨c, ds⟩⟩⟩ <;> first | rfl | (exfalso; revert h; rw [Try.params4]; simp))
    (fun x hx => diskFuse_calls _ _ hx.1.2)

theorem diskFuse_holds : Rows.DiskFuseSaid :=
  OpenClaim.holds_of_wide 4 Try.f4 rfl rfl rfl rfl rfl rfl rfl ⟨rfl, rfl, rfl, rfl, rfl⟩ rfl rfl rfl rfl rfl (by kernel_rfl) Try.func4 (by kernel_rfl)
    (of_decide_eq_true (by kernel_rfl)) (by unfold Func.isWrapper; first | (rw [if_pos (by decide +kernel)]; kernel_rfl) | (rw [if_neg (by decide +kernel)]; exact ⟨rfl, rfl⟩))
    (fun os started H enc _ => diskFuse_lifted os started H enc)
end Am.Disk

namespace Go.Proofs.Ytlhbmnhiiicldaa
theorem diskFuse_holds : Rows.DiskFuseSaid := Am.Disk.diskFuse_holds
end Go.Proofs.Ytlhbmnhiiicldaa
