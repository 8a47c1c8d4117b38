/- DigestSearch: what is found by ranges of any two views, and how many were held against each other, and where they are unlike, is as the document says; for every input, no condition. -/
import Derived.Test.YtohopanblpgldaaAmDigS
set_option linter.all false
namespace Am.Dig
open Am Go Am.Ir Am.Sha Go.Proofs Go.Proofs.Ytohopanblpgldaa Go.RowKit
set_option maxRecDepth 100000

theorem digestSearch_lifted (os : Os) (started : os.Started) (H : Type) (enc : TypeId × Value → H) :
    ReturnsInHanded {} Try.checked os 4 .any (Rows.digestSearchSpec.pre6 enc Try.prog Try.f4 Rows.digestSearchRow.domain false) (Rows.digestSearchSpec.post enc Try.prog Try.f4 false true false false) :=
  lifted (C := Try.checked) own started (by kernel_rfl) Try.func4
    (ChangeSpec.witness6 (enc := enc) (C := Try.checked) false ⟨#[], #[.agg (Array.replicate 512 (.int .u8 0)), .agg (Array.replicate 512 (.int .u8 0)), .int .i64 0], []⟩ 8 (by kernel_rfl) (by kernel_rfl) (by kernel_rfl) (by kernel_rfl))
    rfl laidOut [viewT, viewT, .int .i64] (by kernel_rfl) rfl (by kernel_rfl)
    (fun ds h => by rcases ds with _ | ⟨a, _ | ⟨b, _ | ⟨c, _ | ⟨d, ds⟩⟩⟩⟩ <;> first | rfl | (exfalso; revert h; rw [Try.params4]; simp))
    (fun x hx => by
      obtain ⟨vs, hv, h1⟩ := view_arg x.1 hx.1
      obtain ⟨ws, hw, h2⟩ := view_arg x.2.1 hx.2.1
      have := digestSearch_calls vs ws hv hw x.2.2.1
      rw [← h1, ← h2] at this
      exact this)

theorem digestSearch_holds : Rows.DigestSearchSaid :=
  OpenClaim.holds_of_wide 4 Try.f4 rfl rfl rfl rfl rfl rfl rfl ⟨rfl, rfl, rfl, rfl, rfl⟩ rfl rfl rfl rfl rfl (by kernel_rfl) Try.func4 (by kernel_rfl)
    (of_decide_eq_true (by kernel_rfl)) (by unfold Func.isWrapper; first | (rw [if_pos (by decide +kernel)]; kernel_rfl) | (rw [if_neg (by decide +kernel)]; exact ⟨rfl, rfl⟩))
    (fun os started H enc _ => digestSearch_lifted os started H enc)
end Am.Dig

namespace Go.Proofs.Ytohopanblpgldaa
theorem digestSearch_holds : Rows.DigestSearchSaid := Am.Dig.digestSearch_holds
end Go.Proofs.Ytohopanblpgldaa
