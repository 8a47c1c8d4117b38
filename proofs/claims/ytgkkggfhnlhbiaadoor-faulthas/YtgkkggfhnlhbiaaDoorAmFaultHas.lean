/- FaultHas: whether a fault has a code, through any chain of steps, is as the document says; for every input; the listed variable as the text lays it. -/
import Derived.Test.YtgkkggfhnlhbiaaDoorAmFaultRow
set_option linter.all false
namespace Am.Fault
open Am Go Am.Ir Go.Proofs Go.Proofs.YtgkkggfhnlhbiaaDoor Go.RowKit
set_option maxRecDepth 100000

theorem faultHas_lifted (os : Os) (started : os.Started) (H : Type) (enc : TypeId × Value → H) :
    ReturnsInHanded {} Tryd.checked os 5 .any (fun w args => (Rows.faultHasSpec.pre enc Tryd.prog Tryd.f5 Rows.faultHasRow.domain false w args ∧ laidMetH Tryd.prog Rows.faultHasRow.laid w) ∧ sizedMet enc Tryd.prog Tryd.f5 (OpenSpec.ofChange Rows.faultHasSpec) false w args)
      (Rows.faultHasSpec.post enc Tryd.prog Tryd.f5 false true false false) :=
  liftedL (C := Tryd.checked) (X := fun w => laidMetH Tryd.prog Rows.faultHasRow.laid w) own started (by kernel_rfl) Tryd.func5 (fun _ _ hh h => h.of_heap hh)
    (ChangeSpec.witness_at (enc := enc) (C := Tryd.checked) (os := os) (X := fun w _ => laidMetH Tryd.prog Rows.faultHasRow.laid w) false (laidWorld os) #[.slice none 0 0, .int .i64 0, .int .i64 0] 8 rfl (by kernel_rfl) (by kernel_rfl) (by kernel_rfl) (by kernel_rfl) (by kernel_rfl) (laidWorld_met os _))
    rfl laidOut [opsT, .int .i64, .int .i64] (by kernel_rfl) rfl (by kernel_rfl)
    (fun ds h => by rcases ds with _ | ⟨a, _ | ⟨b, _ | ⟨c, _ | ⟨d, ds⟩⟩⟩⟩ <;> first | rfl | (exfalso; revert h; rw [Tryd.params5]; simp))
    (fun _ h => wok h)
    (fun x hx W hW => by
      obtain ⟨l, h1, h2⟩ := ops_arg x.1 hx.1
      exact faultHas_calls hW h1 h2 x.2.1 x.2.2.1)

theorem faultHas_holds : Rows.FaultHasSaid :=
  OpenClaim.holds_of_wide 5 Tryd.f5 rfl rfl rfl rfl rfl rfl rfl ⟨rfl, rfl, rfl, rfl, rfl⟩ rfl rfl rfl rfl rfl (by kernel_rfl) Tryd.func5 (by kernel_rfl)
    (of_decide_eq_true (by kernel_rfl)) (by unfold Func.isWrapper; first | (rw [if_pos (by decide +kernel)]; kernel_rfl) | (rw [if_neg (by decide +kernel)]; exact ⟨rfl, rfl⟩))
    (fun os started H enc _ => faultHas_lifted os started H enc)

theorem faultHas_card : Rows.FaultHasCardSaid :=
  Claim7.holds_tied_plain_at .later [] [.handle] true (true, "c9df08727b08f189243760cf49cbd58405c4809deb373564efac870da7a80686") true
    faultHas_holds (fun _ h => by cases h) (by kernel_rfl) (fun _ h => by cases h) faultHas_row_tie rfl ⟨rfl, rfl⟩ (by kernel_rfl) rfl
    (fun f fn hf hfn => by
      obtain rfl : f = 5 := Option.some.inj ((show Tryd.prog.funcNamed "cautery/cauterylaw03.FaultHas" = some 5 by kernel_rfl).symm.trans hf) |>.symm
      obtain rfl : fn = Tryd.f5 := (Option.some.inj (Tryd.func5.symm.trans hfn)).symm
      exact ⟨by kernel_rfl, fun j t ht => by
        have hall : (Tryd.f5.params.toList.all fun t => !Tryd.prog.wantsStandIn t) = true := by kernel_rfl
        have := List.all_eq_true.1 hall t (List.mem_of_getElem? (by simpa using ht))
        have h2 : Tryd.prog.wantsStandIn t = false := by simpa using this
        exact h2⟩)
    (by kernel_rfl)
end Am.Fault

namespace Go.Proofs.YtgkkggfhnlhbiaaDoor
theorem faultHas_card : Rows.FaultHasCardSaid := Am.Fault.faultHas_card
end Go.Proofs.YtgkkggfhnlhbiaaDoor
