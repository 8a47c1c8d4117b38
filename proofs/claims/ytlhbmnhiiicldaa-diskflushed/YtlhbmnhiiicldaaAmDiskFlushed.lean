/- DiskFlushed: what was written, and flushed, stays behind any crash, whatever was written elsewhere since, torn or not; for every input, no condition. -/
import Derived.Test.YtlhbmnhiiicldaaAmDiskS2
set_option linter.all false
namespace Am.Disk
open Am Go Am.Ir Go.Proofs Go.Proofs.Ytlhbmnhiiicldaa Go.RowKit
set_option maxRecDepth 100000

theorem diskFlushed_calls (at' : Int) (b x : AVal) (u : List UInt8) (L : List ActV) (hb : ByteV b u) (hx : ActsV x L) : ACalls Try.prog 3 [.int .i64 at', b, x] [] fun v _ => v = .bool true := by
  obtain ⟨T, hT⟩ := diskFlushed at' b x u L hb hx
  exact ((sx (fs := [7, 8, 9, 10, 11, 12, 13, 14]) (l := [xNew, mAlive, yWrite, xFlush, mSmall, mLsector, xCrash, mRead])
    ⟨sNew, sAlive, syWrite, sFlush, smSmall, smLsector, sCrash, smRead, trivial⟩ Try.func3 DiskFlushed_ok 1000) _ _ _ _ hT).2.mono fun _ _ h => h.1

theorem diskFlushed_lifted (os : Os) (started : os.Started) (H : Type) (enc : TypeId × Value → H) :
    ReturnsInHanded {} Try.checked os 3 .any (Rows.diskFlushedSpec.pre6 enc Try.prog Try.f3 Rows.diskFlushedRow.domain false) (Rows.diskFlushedSpec.post enc Try.prog Try.f3 false true false false) :=
  lifted (C := Try.checked) own started (by kernel_rfl) Try.func3
    (ChangeSpec.witness6 (enc := enc) (C := Try.checked) false ⟨#[], #[.int .i64 0, .slice none 0 0, .slice none 0 0], []⟩ 8 (by kernel_rfl) (by kernel_rfl) (by kernel_rfl) (by kernel_rfl))
    rfl laidOut [.int .i64, .sl (.int .u8), .sl actT] (by kernel_rfl) rfl (by kernel_rfl)
    (fun ds h => by rcases ds with _ | ⟨a, _ | ⟨b, _ | ⟨c, _ | ⟨d, ds⟩⟩⟩⟩ <;> first | rfl | (exfalso; revert h; rw [Try.params3]; simp))
    (fun x hx => by
      obtain ⟨u, hu⟩ := byte_arg x.2.1 hx.2.1
      obtain ⟨L, hL⟩ := acts_arg x.2.2.1 hx.2.2.1
      exact diskFlushed_calls _ _ _ u L hu hL)

theorem diskFlushed_holds : Rows.DiskFlushedSaid :=
  OpenClaim.holds_of_wide 3 Try.f3 rfl rfl rfl rfl rfl rfl rfl ⟨rfl, rfl, rfl, rfl, rfl⟩ rfl rfl rfl rfl rfl (by kernel_rfl) Try.func3 (by kernel_rfl)
    (of_decide_eq_true (by kernel_rfl)) (by unfold Func.isWrapper; first | (rw [if_pos (by decide +kernel)]; kernel_rfl) | (rw [if_neg (by decide +kernel)]; exact ⟨rfl, rfl⟩))
    (fun os started H enc _ => diskFlushed_lifted os started H enc)
end Am.Disk

namespace Go.Proofs.Ytlhbmnhiiicldaa
theorem diskFlushed_holds : Rows.DiskFlushedSaid := Am.Disk.diskFlushed_holds
end Go.Proofs.Ytlhbmnhiiicldaa
