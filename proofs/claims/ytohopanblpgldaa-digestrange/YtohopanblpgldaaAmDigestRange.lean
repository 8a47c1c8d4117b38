/- DigestRange: any view's ranges and their middles, and whether any cell is had, are as the document says; a whole view's range is its digest; for every input, no condition. -/
import Derived.Test.YtohopanblpgldaaAmDigS
set_option linter.all false
namespace Am.Dig
open Am Go Am.Ir Am.Sha Go.Proofs Go.Proofs.Ytohopanblpgldaa Go.RowKit
set_option maxRecDepth 100000

theorem digestRange_lifted (os : Os) (started : os.Started) (H : Type) (enc : TypeId × Value → H) :
    ReturnsInHanded {} Try.checked os 3 .any (Rows.digestRangeSpec.pre6 enc Try.prog Try.f3 Rows.digestRangeRow.domain false) (Rows.digestRangeSpec.post enc Try.prog Try.f3 false true false false) :=
  lifted (C := Try.checked) own started (by kernel_rfl) Try.func3
    (ChangeSpec.witness6 (enc := enc) (C := Try.checked) false ⟨#[], #[.agg (Array.replicate 512 (.int .u8 0)), .int .i64 0, .int .i64 0], []⟩ 8 (by kernel_rfl) (by kernel_rfl) (by kernel_rfl) (by kernel_rfl))
    rfl laidOut [viewT, .int .i64, .int .i64] (by kernel_rfl) rfl (by kernel_rfl)
    (fun ds h => by rcases ds with _ | ⟨a, _ | ⟨b, _ | ⟨c, _ | ⟨d, ds⟩⟩⟩⟩ <;> first | rfl | (exfalso; revert h; rw [Try.params3]; simp))
    (fun x hx => by
      obtain ⟨vs, hv, h1⟩ := view_arg x.1 hx.1
      have hlo : -9223372036854775808 ≤ x.2.1 ∧ x.2.1 ≤ 9223372036854775807 := hx.2.1
      have hhi : -9223372036854775808 ≤ x.2.2.1 ∧ x.2.2.1 ≤ 9223372036854775807 := hx.2.2.1
      have := digestRange_calls vs hv x.2.1 x.2.2.1 hlo hhi
      rw [← h1] at this
      exact this)

theorem digestRange_holds : Rows.DigestRangeSaid :=
  OpenClaim.holds_of_wide 3 Try.f3 rfl rfl rfl rfl rfl rfl rfl ⟨rfl, rfl, rfl, rfl, rfl⟩ rfl rfl rfl rfl rfl (by kernel_rfl) Try.func3 (by kernel_rfl)
    (of_decide_eq_true (by kernel_rfl)) (by unfold Func.isWrapper; first | (rw [if_pos (by decide +kernel)]; kernel_rfl) | (rw [if_neg (by decide +kernel)]; exact ⟨rfl, rfl⟩))
    (fun os started H enc _ => digestRange_lifted os started H enc)
end Am.Dig

namespace Go.Proofs.Ytohopanblpgldaa
theorem digestRange_holds : Rows.DigestRangeSaid := Am.Dig.digestRange_holds
end Go.Proofs.Ytohopanblpgldaa
