/- NetFates: what is dropped does not come, what is doubled comes twice, what is spoilt has one byte another way, the last comes first; for every input, no condition. -/
import Derived.Test.YtcecdoaddhgohaaAmNetS
import Derived.Test.YtcecdoaddhgohaaAmNet7
set_option linter.all false
namespace Am.Net
open Am Go Am.Ir Go.Proofs Go.Proofs.Ytcecdoaddhgohaa Go.RowKit
set_option maxRecDepth 100000

theorem isB_arg {x : Option (List Int)} (h : (DT.sl (.int .u8)).Wf x) : ∃ u, IsB ((DT.sl (.int .u8)).one x) u := arg_bytes h

theorem netFates_calls (x : Vals [.sl (.int .u8), .sl (.int .u8), .int .i64]) (h : Wfs [.sl (.int .u8), .sl (.int .u8), .int .i64] x) :
    ACalls Try.prog 4 (encs [.sl (.int .u8), .sl (.int .u8), .int .i64] x) [] fun v _ => v = .bool true := by
  obtain ⟨xa, xb, n, _⟩ := x
  obtain ⟨ha, hb, _, _⟩ := h
  obtain ⟨a, ia⟩ := isB_arg ha
  obtain ⟨b, ib⟩ := isB_arg hb
  have : ∃ S', evF fO 1000 NetFates [(DT.sl (.int .u8)).one xa, (DT.sl (.int .u8)).one xb, .int .i64 n] [] = some (.bool true, S') := by
    by_cases h : a = [] ∨ b = [] ∨ 600 < a.length ∨ 600 < b.length
    · exact fates_small ia ib n h
    · simp only [not_or] at h
      exact fates_main ia ib n h.1 h.2.1 (by omega) (by omega)
  obtain ⟨S', h⟩ := this
  exact ((sx (fs := [7, 8, 9, 10, 11]) (l := [xNew, mAlive, xSend, xTake, xWaits]) ⟨sNew, sAlive, sSend, sTake, sWaits, trivial⟩ Try.func4 NetFates_ok 1000) _ _ _ _ h).2.mono fun _ _ h => h.1

theorem netFates_lifted (os : Os) (started : os.Started) (H : Type) (enc : TypeId × Value → H) :
    ReturnsInHanded {} Try.checked os 4 .any (Rows.netFatesSpec.pre6 enc Try.prog Try.f4 Rows.netFatesRow.domain false) (Rows.netFatesSpec.post enc Try.prog Try.f4 false true false false) :=
  lifted (C := Try.checked) own started (by kernel_rfl) Try.func4
    (ChangeSpec.witness6 (enc := enc) (C := Try.checked) false ⟨#[], #[.slice none 0 0, .slice none 0 0, .int .i64 0], []⟩ 8 (by kernel_rfl) (by kernel_rfl) (by kernel_rfl) (by kernel_rfl))
    rfl laidOut [.sl (.int .u8), .sl (.int .u8), .int .i64] (by kernel_rfl) rfl (by kernel_rfl)
    (fun ds h => by rcases ds with _ | ⟨a, _ | ⟨b, _ | ⟨c, _ | ⟨d, ds⟩⟩⟩⟩ <;> first | rfl | (exfalso; revert h; rw [Try.params4]; simp))
    netFates_calls

theorem netFates_holds : Rows.NetFatesSaid :=
  OpenClaim.holds_of_wide 4 Try.f4 rfl rfl rfl rfl rfl rfl rfl ⟨rfl, rfl, rfl, rfl, rfl⟩ rfl rfl rfl rfl rfl (by kernel_rfl) Try.func4 (by kernel_rfl)
    (of_decide_eq_true (by kernel_rfl)) (by unfold Func.isWrapper; first | (rw [if_pos (by decide +kernel)]; kernel_rfl) | (rw [if_neg (by decide +kernel)]; exact ⟨rfl, rfl⟩))
    (fun os started H enc _ => netFates_lifted os started H enc)
end Am.Net

namespace Go.Proofs.Ytcecdoaddhgohaa
theorem netFates_holds : Rows.NetFatesSaid := Am.Net.netFates_holds
end Go.Proofs.Ytcecdoaddhgohaa
