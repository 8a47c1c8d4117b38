/- DigestFound: what is found by ranges of any two views is unlike, in order, of alike views nothing; no more pairs are held against each other than one, and eight for each place that is unlike; for every input, no condition. -/
import Derived.Test.YtohopanblpgldaaAmDigS
set_option linter.all false
namespace Am.Dig
open Am Go Am.Ir Am.Sha Go.Proofs Go.Proofs.Ytohopanblpgldaa Go.RowKit
set_option maxRecDepth 100000

theorem digestFound_lifted (os : Os) (started : os.Started) (H : Type) (enc : TypeId × Value → H) :
    ReturnsInHanded {} Try.checked os 5 .any (Rows.digestFoundSpec.pre6 enc Try.prog Try.f5 Rows.digestFoundRow.domain false) (Rows.digestFoundSpec.post enc Try.prog Try.f5 false true false false) :=
  lifted (C := Try.checked) own started (by kernel_rfl) Try.func5
    (ChangeSpec.witness6 (enc := enc) (C := Try.checked) false ⟨#[], #[.agg (Array.replicate 512 (.int .u8 0)), .agg (Array.replicate 512 (.int .u8 0)), .int .i64 0], []⟩ 8 (by kernel_rfl) (by kernel_rfl) (by kernel_rfl) (by kernel_rfl))
    rfl laidOut [viewT, viewT, .int .i64] (by kernel_rfl) rfl (by kernel_rfl)
    (fun ds h => by rcases ds with _ | ⟨a, _ | ⟨b, _ | ⟨c, _ | ⟨d, ds⟩⟩⟩⟩ <;> first | rfl | (exfalso; revert h; rw [Try.params5]; simp))
    (fun x hx => by
      obtain ⟨vs, hv, h1⟩ := view_arg x.1 hx.1
      obtain ⟨ws, hw, h2⟩ := view_arg x.2.1 hx.2.1
      have := digestFound_calls vs ws hv hw x.2.2.1
      rw [← h1, ← h2] at this
      exact this)

theorem digestFound_holds : Rows.DigestFoundSaid :=
  OpenClaim.holds_of_wide 5 Try.f5 rfl rfl rfl rfl rfl rfl rfl ⟨rfl, rfl, rfl, rfl, rfl⟩ rfl rfl rfl rfl rfl (by kernel_rfl) Try.func5 (by kernel_rfl)
    (of_decide_eq_true (by kernel_rfl)) (by unfold Func.isWrapper; first | (rw [if_pos (by decide +kernel)]; kernel_rfl) | (rw [if_neg (by decide +kernel)]; exact ⟨rfl, rfl⟩))
    (fun os started H enc _ => digestFound_lifted os started H enc)
end Am.Dig

namespace Go.Proofs.Ytohopanblpgldaa
theorem digestFound_holds : Rows.DigestFoundSaid := Am.Dig.digestFound_holds
end Go.Proofs.Ytohopanblpgldaa
