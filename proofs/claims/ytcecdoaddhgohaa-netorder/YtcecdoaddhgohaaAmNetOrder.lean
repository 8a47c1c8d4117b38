/- NetOrder: what was sent on a line comes by the fate 0, each once, in order, whatever is sent on the other one; for every input, no condition. -/
import Derived.Test.YtcecdoaddhgohaaAmNetS
import Derived.Test.YtcecdoaddhgohaaAmNet8
set_option linter.all false
namespace Am.Net
open Am Go Am.Ir Go.Proofs Go.Proofs.Ytcecdoaddhgohaa Go.RowKit
set_option maxRecDepth 100000

theorem isB_arg {x : Option (List Int)} (h : (DT.sl (.int .u8)).Wf x) : ∃ u, IsB ((DT.sl (.int .u8)).one x) u := arg_bytes h

theorem enc_sl (e : DT) (x : (DT.sl e).Val) : (DT.sl e).enc x = [(DT.sl e).one x] := by cases x <;> rfl

theorem isL_arg {x : (DT.sl (.sl (.int .u8))).Val} (h : (DT.sl (.sl (.int .u8))).Wf x) : ∃ us, IsL ((DT.sl (.sl (.int .u8))).one x) us := by
  cases x with
  | none => exact ⟨[], .inl ⟨rfl, rfl⟩⟩
  | some l =>
    have key : ∀ l : List (Option (List Int)), (∀ x ∈ l, (DT.sl (.int .u8)).Wf x) → ∃ us : List (List UInt8), us.length = l.length ∧ (l.flatMap (DT.sl (.int .u8)).enc).length = us.length ∧
        ∀ (j : Nat) v u, (l.flatMap (DT.sl (.int .u8)).enc)[j]? = some v → us[j]? = some u → IsB v u := by
      intro l
      induction l with
      | nil => intro _; exact ⟨[], rfl, rfl, by simp⟩
      | cons x l ih =>
        intro hx
        obtain ⟨us, h1, h2, h3⟩ := ih (fun y hy => hx y (List.mem_cons_of_mem _ hy))
        obtain ⟨u, hu⟩ := isB_arg (hx x (List.mem_cons_self ..))
        refine ⟨u :: us, by simp [h1], by rw [List.flatMap_cons, enc_sl]; simp [h2], fun j v w hv hw => ?_⟩
        rw [List.flatMap_cons, enc_sl] at hv
        cases j with
        | zero => simp at hv hw; subst hv; subst hw; exact hu
        | succ j => exact h3 j v w (by simpa using hv) (by simpa using hw)
    obtain ⟨us, h1, h2, h3⟩ := key l h.2
    exact ⟨us, .inr ⟨_, by rw [h1]; rfl, h2, h3⟩⟩

theorem netOrder_calls (x : Vals [.sl (.sl (.int .u8)), .sl (.sl (.int .u8))]) (h : Wfs [.sl (.sl (.int .u8)), .sl (.sl (.int .u8))] x) :
    ACalls Try.prog 3 (encs [.sl (.sl (.int .u8)), .sl (.sl (.int .u8))] x) [] fun v _ => v = .bool true := by
  obtain ⟨xl, xo, _⟩ := x
  obtain ⟨hl, ho, _⟩ := h
  obtain ⟨us, il⟩ := isL_arg hl
  obtain ⟨os, io⟩ := isL_arg ho
  obtain ⟨S', h⟩ := netOrder il io
  exact ((sx (fs := [7, 8, 9, 10, 11]) (l := [xNew, mAlive, xSend, xTake, xWaits]) ⟨sNew, sAlive, sSend, sTake, sWaits, trivial⟩ Try.func3 NetOrder_ok 1000) _ _ _ _ h).2.mono fun _ _ h => h.1

theorem netOrder_lifted (os : Os) (started : os.Started) (H : Type) (enc : TypeId × Value → H) :
    ReturnsInHanded {} Try.checked os 3 .any (Rows.netOrderSpec.pre6 enc Try.prog Try.f3 Rows.netOrderRow.domain false) (Rows.netOrderSpec.post enc Try.prog Try.f3 false true false false) :=
  lifted (C := Try.checked) own started (by kernel_rfl) Try.func3
    (ChangeSpec.witness6 (enc := enc) (C := Try.checked) false ⟨#[], #[.slice none 0 0, .slice none 0 0], []⟩ 8 (by kernel_rfl) (by kernel_rfl) (by kernel_rfl) (by kernel_rfl))
    rfl laidOut [.sl (.sl (.int .u8)), .sl (.sl (.int .u8))] (by kernel_rfl) rfl (by kernel_rfl)
    (fun ds h => by rcases ds with _ | ⟨a, _ | ⟨b, _ | ⟨c, ds⟩⟩⟩ <;> first | rfl | (exfalso; revert h; rw [Try.params3]; simp))
    netOrder_calls

theorem netOrder_holds : Rows.NetOrderSaid :=
  OpenClaim.holds_of_wide 3 Try.f3 rfl rfl rfl rfl rfl rfl rfl ⟨rfl, rfl, rfl, rfl, rfl⟩ rfl rfl rfl rfl rfl (by kernel_rfl) Try.func3 (by kernel_rfl)
    (of_decide_eq_true (by kernel_rfl)) (by unfold Func.isWrapper; first | (rw [if_pos (by decide +kernel)]; kernel_rfl) | (rw [if_neg (by decide +kernel)]; exact ⟨rfl, rfl⟩))
    (fun os started H enc _ => netOrder_lifted os started H enc)
end Am.Net

namespace Go.Proofs.Ytcecdoaddhgohaa
theorem netOrder_holds : Rows.NetOrderSaid := Am.Net.netOrder_holds
end Go.Proofs.Ytcecdoaddhgohaa
