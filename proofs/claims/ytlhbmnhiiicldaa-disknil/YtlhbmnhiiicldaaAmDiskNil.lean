/- DiskNil: where there is no disk, nothing is read, written, flushed, or dumped, whatever the sector and the bytes; for every input, no condition. -/
import Derived.Test.YtlhbmnhiiicldaaAmDiskS
import Derived.Test.YtlhbmnhiiicldaaAmDisk2
set_option linter.all false
namespace Am.Disk
open Am Go Am.Ir Go.Proofs Go.Proofs.Ytlhbmnhiiicldaa Go.RowKit
set_option maxRecDepth 100000

theorem len_arg (x : Option (List Int)) (h : (DT.sl (.int .u8)).Wf x) : ∃ n : Nat, lenA .sl ((DT.sl (.int .u8)).one x) = some (.int .i64 n) := by
  cases x with
  | none => exact ⟨0, rfl⟩
  | some l => exact ⟨_, rfl⟩

theorem diskNil_calls (i : Int) (b : AVal) (n : Nat) (hb : lenA .sl b = some (.int .i64 n)) : ACalls Try.prog 6 [.int .i64 i, b] [] fun v _ => v = .bool true := by
  obtain ⟨T, hT⟩ := diskNil i b n hb
  exact ((sx (fs := [8, 14, 9, 10, 22, 13, 15, 21, 16, 17]) (l := [mAlive, xRead, xWrite, xFlush, xRot, xCrash, xFuse, xLen, xWaits, xDump])
    ⟨sAlive, sRead, sWrite, sFlush, sRot, sCrash, sFuse, sLen, sWaits, sDump, trivial⟩ Try.func6 DiskNil_ok 10) _ _ _ _ hT).2.mono fun _ _ h => h.1

theorem diskNil_lifted (os : Os) (started : os.Started) (H : Type) (enc : TypeId × Value → H) :
    ReturnsInHanded {} Try.checked os 6 .any (Rows.diskNilSpec.pre6 enc Try.prog Try.f6 Rows.diskNilRow.domain false) (Rows.diskNilSpec.post enc Try.prog Try.f6 false true false false) :=
  lifted (C := Try.checked) own started (by kernel_rfl) Try.func6
    (ChangeSpec.witness6 (enc := enc) (C := Try.checked) false ⟨#[], #[.int .i64 0, .slice none 0 0], []⟩ 8 (by kernel_rfl) (by kernel_rfl) (by kernel_rfl) (by kernel_rfl))
    rfl laidOut [.int .i64, .sl (.int .u8)] (by kernel_rfl) rfl (by kernel_rfl)
    (fun ds h => by rcases ds with _ | ⟨a, _ | ⟨b, _ | ⟨c, ds⟩⟩⟩ <;> first | rfl | (exfalso; revert h; rw [Try.params6]; simp))
    (fun x hx => by obtain ⟨n, hn⟩ := len_arg x.2.1 hx.2.1; exact diskNil_calls _ _ n hn)

theorem diskNil_holds : Rows.DiskNilSaid :=
  OpenClaim.holds_of_wide 6 Try.f6 rfl rfl rfl rfl rfl rfl rfl ⟨rfl, rfl, rfl, rfl, rfl⟩ rfl rfl rfl rfl rfl (by kernel_rfl) Try.func6 (by kernel_rfl)
    (of_decide_eq_true (by kernel_rfl)) (by unfold Func.isWrapper; first | (rw [if_pos (by decide +kernel)]; kernel_rfl) | (rw [if_neg (by decide +kernel)]; exact ⟨rfl, rfl⟩))
    (fun os started H enc _ => diskNil_lifted os started H enc)
end Am.Disk

namespace Go.Proofs.Ytlhbmnhiiicldaa
theorem diskNil_holds : Rows.DiskNilSaid := Am.Disk.diskNil_holds
end Go.Proofs.Ytlhbmnhiiicldaa
