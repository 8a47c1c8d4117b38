/- FaultWrapped: a fault wrapped once more keeps its code and root, is one deeper, and its text has the step ahead; for every input; the listed variable as the text lays it. -/
import Derived.Test.YtgkkggfhnlhbiaaDoorAmFaultRow
set_option linter.all false
namespace Am.Fault
open Am Go Am.Ir Go.Proofs Go.Proofs.YtgkkggfhnlhbiaaDoor Go.RowKit
set_option maxRecDepth 100000

theorem faultWrapped_lifted (os : Os) (started : os.Started) (H : Type) (enc : TypeId × Value → H) :
    ReturnsInHanded {} Tryd.checked os 3 .any (fun w args => (Rows.faultWrappedSpec.pre enc Tryd.prog Tryd.f3 Rows.faultWrappedRow.domain false w args ∧ laidMetH Tryd.prog Rows.faultWrappedRow.laid w) ∧ sizedMet enc Tryd.prog Tryd.f3 (OpenSpec.ofChange Rows.faultWrappedSpec) false w args)
      (Rows.faultWrappedSpec.post enc Tryd.prog Tryd.f3 false true false false) :=
  liftedL (C := Tryd.checked) (X := fun w => laidMetH Tryd.prog Rows.faultWrappedRow.laid w) own started (by kernel_rfl) Tryd.func3 (fun _ _ hh h => h.of_heap hh)
    (ChangeSpec.witness_at (enc := enc) (C := Tryd.checked) (os := os) (X := fun w _ => laidMetH Tryd.prog Rows.faultWrappedRow.laid w) false (laidWorld os) #[.slice none 0 0, .string ⟨#[]⟩, .int .i64 0] 8 rfl (by kernel_rfl) (by kernel_rfl) (by kernel_rfl) (by kernel_rfl) (by kernel_rfl) (laidWorld_met os _))
    rfl laidOut [opsT, .str, .int .i64] (by kernel_rfl) rfl (by kernel_rfl)
    (fun ds h => by rcases ds with _ | ⟨a, _ | ⟨b, _ | ⟨c, _ | ⟨d, ds⟩⟩⟩⟩ <;> first | rfl | (exfalso; revert h; rw [Tryd.params3]; simp))
    (fun _ h => wok h)
    (fun x hx W hW => by
      obtain ⟨l, h1, h2⟩ := ops_arg x.1 hx.1
      exact faultWrapped_calls hW h1 h2 x.2.1 hx.2.1 x.2.2.1)

theorem faultWrapped_holds : Rows.FaultWrappedSaid :=
  OpenClaim.holds_of_wide 3 Tryd.f3 rfl rfl rfl rfl rfl rfl rfl ⟨rfl, rfl, rfl, rfl, rfl⟩ rfl rfl rfl rfl rfl (by kernel_rfl) Tryd.func3 (by kernel_rfl)
    (of_decide_eq_true (by kernel_rfl)) (by unfold Func.isWrapper; first | (rw [if_pos (by decide +kernel)]; kernel_rfl) | (rw [if_neg (by decide +kernel)]; exact ⟨rfl, rfl⟩))
    (fun os started H enc _ => faultWrapped_lifted os started H enc)

theorem faultWrapped_card : Rows.FaultWrappedCardSaid :=
  Claim7.holds_tied_plain_at .later [] [.handle] true (true, "c9df08727b08f189243760cf49cbd58405c4809deb373564efac870da7a80686") true
    faultWrapped_holds (fun _ h => by cases h) (by kernel_rfl) (fun _ h => by cases h) faultWrapped_row_tie rfl ⟨rfl, rfl⟩ (by kernel_rfl) rfl
    (fun f fn hf hfn => by
      obtain rfl : f = 3 := Option.some.inj ((show Tryd.prog.funcNamed "cautery/cauterylaw03.FaultWrapped" = some 3 by kernel_rfl).symm.trans hf) |>.symm
      obtain rfl : fn = Tryd.f3 := (Option.some.inj (Tryd.func3.symm.trans hfn)).symm
      exact ⟨by kernel_rfl, fun j t ht => by
        have hall : (Tryd.f3.params.toList.all fun t => !Tryd.prog.wantsStandIn t) = true := by kernel_rfl
        have := List.all_eq_true.1 hall t (List.mem_of_getElem? (by simpa using ht))
        have h2 : Tryd.prog.wantsStandIn t = false := by simpa using this
        exact h2⟩)
    (by kernel_rfl)
end Am.Fault

namespace Go.Proofs.YtgkkggfhnlhbiaaDoor
theorem faultWrapped_card : Rows.FaultWrappedCardSaid := Am.Fault.faultWrapped_card
end Go.Proofs.YtgkkggfhnlhbiaaDoor
