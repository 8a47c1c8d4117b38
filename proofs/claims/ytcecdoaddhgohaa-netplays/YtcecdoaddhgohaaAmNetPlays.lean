/- NetPlays: any script of messages that are sent, and that come by any fates, is answered as the document says; for every input, no condition. -/
import Derived.Test.YtcecdoaddhgohaaAmNetS
import Derived.Test.YtcecdoaddhgohaaAmNet14
set_option linter.all false
namespace Am.Net
open Am Go Am.Ir Go.Proofs Go.Proofs.Ytcecdoaddhgohaa Go.RowKit
set_option maxRecDepth 100000

theorem isB_arg {x : Option (List Int)} (h : (DT.sl (.int .u8)).Wf x) : ∃ u, IsB ((DT.sl (.int .u8)).one x) u := arg_bytes h

theorem enc_sl (e : DT) (x : (DT.sl e).Val) : (DT.sl e).enc x = [(DT.sl e).one x] := by cases x <;> rfl

theorem sRefLine : Sound Try.prog 18 mRefLine := Sound.pure 3 (sx (fs := []) (l := []) trivial Try.func18 ref22_line_ok 10)
theorem sRefWith : Sound Try.prog 19 xRefWith := sx (fs := []) (l := []) trivial Try.func19 ref22_with_ok 10
theorem sRefSend : Sound Try.prog 12 mRefSend := Sound.pure 5 (sx (fs := [18, 19]) (l := [mRefLine, xRefWith]) ⟨sRefLine, sRefWith, trivial⟩ Try.func12 ref22_Send_ok 10)
theorem sRefTake : Sound Try.prog 13 mRefTake := Sound.pure 5 (sx (fs := [18, 19]) (l := [mRefLine, xRefWith]) ⟨sRefLine, sRefWith, trivial⟩ Try.func13 ref22_Take_ok 10)
theorem sRefWaits : Sound Try.prog 15 mRefWaits := Sound.pure 3 (sx (fs := [18]) (l := [mRefLine]) ⟨sRefLine, trivial⟩ Try.func15 ref22_Waits_ok 10)

abbrev actT : DT := .st (.fld (.int .i64) (.fld (.int .i64) (.fld .bool (.fld (.sl (.int .u8)) .done))))

theorem isS_arg {x : (DT.sl actT).Val} (h : (DT.sl actT).Wf x) : ∃ acts, IsS ((DT.sl actT).one x) acts := by
  cases x with
  | none => exact ⟨[], .inl ⟨rfl, rfl⟩⟩
  | some l =>
    have key : ∀ l : List actT.Val, (∀ x ∈ l, actT.Wf x) → ∃ acts : List (Int × Int × Bool × List UInt8), acts.length = l.length ∧ (l.flatMap actT.enc).length = acts.length * 4 ∧
        ∀ (j : Nat) a, acts[j]? = some a → a.2.1 ≤ 9223372036854775807 ∧ ∃ xb, ((l.flatMap actT.enc).drop (j * 4)).take 4 = [.int .i64 a.1, .int .i64 a.2.1, .bool a.2.2.1, xb] ∧ IsB xb a.2.2.2 := by
      intro l
      induction l with
      | nil => intro _; exact ⟨[], rfl, rfl, by simp⟩
      | cons x l ih =>
        intro hx
        obtain ⟨acts, h1, h2, h3⟩ := ih (fun y hy => hx y (List.mem_cons_of_mem _ hy))
        have hw := hx x (List.mem_cons_self ..)
        obtain ⟨kd, ft, s, b, _⟩ := x
        obtain ⟨_, ⟨_, hft⟩, _, hb, _⟩ := hw
        obtain ⟨u, hu⟩ := isB_arg hb
        have he : actT.enc (kd, ft, s, b, ()) = [.int .i64 kd, .int .i64 ft, .bool s, (DT.sl (.int .u8)).one b] := by
          show [AVal.int .i64 kd] ++ ([AVal.int .i64 ft] ++ ([AVal.bool s] ++ ((DT.sl (.int .u8)).enc b ++ []))) = _
          rw [enc_sl]; rfl
        refine ⟨(kd, ft, s, u) :: acts, by simp [h1], by rw [List.flatMap_cons, he]; simp [h2]; omega, fun j a ha => ?_⟩
        rw [List.flatMap_cons, he]
        cases j with
        | zero => simp at ha; subst ha; exact ⟨hft, _, rfl, hu⟩
        | succ j =>
          obtain ⟨g1, xb, g2, g3⟩ := h3 j a (by simpa using ha)
          refine ⟨g1, xb, ?_, g3⟩
          rw [← g2, show (j + 1) * 4 = 4 + j * 4 by omega, ← List.drop_drop]
          rfl
    obtain ⟨acts, h1, h2, h3⟩ := key l h.2
    exact ⟨acts, .inr ⟨_, by rw [h1]; rfl, h2, h3⟩⟩

theorem netPlays_calls (x : Vals [.sl actT]) (h : Wfs [.sl actT] x) : ACalls Try.prog 5 (encs [.sl actT] x) [] fun v _ => v = .bool true := by
  obtain ⟨xl, _⟩ := x
  obtain ⟨hl, _⟩ := h
  obtain ⟨acts, il⟩ := isS_arg hl
  obtain ⟨S', h⟩ := netPlays il
  exact ((sx (fs := [7, 8, 9, 12, 10, 13, 14, 11, 15]) (l := [xNew, mAlive, xSend, mRefSend, xTake, mRefTake, xClear, xWaits, mRefWaits])
    ⟨sNew, sAlive, sSend, sRefSend, sTake, sRefTake, sClear, sWaits, sRefWaits, trivial⟩ Try.func5 NetPlays_ok 2000) _ _ _ _ h).2.mono fun _ _ h => h.1

theorem netPlays_lifted (os : Os) (started : os.Started) (H : Type) (enc : TypeId × Value → H) :
    ReturnsInHanded {} Try.checked os 5 .any (Rows.netPlaysSpec.pre6 enc Try.prog Try.f5 Rows.netPlaysRow.domain false) (Rows.netPlaysSpec.post enc Try.prog Try.f5 false true false false) :=
  lifted (C := Try.checked) own started (by kernel_rfl) Try.func5
    (ChangeSpec.witness6 (enc := enc) (C := Try.checked) false ⟨#[], #[.slice none 0 0], []⟩ 8 (by kernel_rfl) (by kernel_rfl) (by kernel_rfl) (by kernel_rfl))
    rfl laidOut [.sl actT] (by kernel_rfl) rfl (by kernel_rfl)
    (fun ds h => by rcases ds with _ | ⟨a, _ | ⟨b, ds⟩⟩ <;> first | rfl | (exfalso; revert h; rw [Try.params5]; simp))
    netPlays_calls

theorem netPlays_holds : Rows.NetPlaysSaid :=
  OpenClaim.holds_of_wide 5 Try.f5 rfl rfl rfl rfl rfl rfl rfl ⟨rfl, rfl, rfl, rfl, rfl⟩ rfl rfl rfl rfl rfl (by kernel_rfl) Try.func5 (by kernel_rfl)
    (of_decide_eq_true (by kernel_rfl)) (by unfold Func.isWrapper; first | (rw [if_pos (by decide +kernel)]; kernel_rfl) | (rw [if_neg (by decide +kernel)]; exact ⟨rfl, rfl⟩))
    (fun os started H enc _ => netPlays_lifted os started H enc)
end Am.Net

namespace Go.Proofs.Ytcecdoaddhgohaa
theorem netPlays_holds : Rows.NetPlaysSaid := Am.Net.netPlays_holds
end Go.Proofs.Ytcecdoaddhgohaa
