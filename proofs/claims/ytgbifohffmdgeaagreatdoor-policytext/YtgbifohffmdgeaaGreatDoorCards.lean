/-
  DERIVED. GIVEN WITH THE SEED: THE CARDS: each row of YtgbifohffmdgeaaGreatDoorRows.lean that lists a variable, with what it lists TIED to the program's text (the seventh form; the later family's looks); each row that meets fmt, with fmt's text TOLD by the authors' own Lean function (tested against real Go, not proved from fmt's source: count such statements apart). THE CARD IS WHAT COUNTS. Prove the row's statement (the work); the ties are given (YtgbifohffmdgeaaGreatDoorTie.lean); close each card by the builder's one call (the guide's Derived/Test/ToyasCard.lean, 'card_holds'). Laid BY PROGRAM, IN A SANDBOX (cutbox-door.mjs). By AI agents, Wed Nov 11 2026. No macro, syntax, notation, axiom, sorry.
-/
import Derived.Test.YtgbifohffmdgeaaGreatDoorRows
import GoSem.ClaimSeven
namespace Go.Proofs.YtgbifohffmdgeaaGreatDoor
namespace Rows

/-- THE TIED CARD OF 'cauterylaw30.PolicyKeep'. -/
def policyKeepCard : Claim7 := { stood := { row := policyKeepRow, standIns := [], harness := (true, "f014e3070ecdccb27ce571796c9e474f52fff6526c5ed5dc98680c1b9b88ce6d"), looks := true }, kinds := [], alts := [], laidByText := true, laidKinds := [.data, .data, .data, .data, .sentinel, .sentinel, .pinned], laidTests := true, laidLooks := .later }
def PolicyKeepCardSaid : Prop := Claim7.holds Tryz.pinned (.plain (OpenSpec.ofChange policyKeepSpec)) policyKeepCard

/-- THE TIED CARD OF 'cauterylaw30.PolicyText'. -/
def policyTextCard : Claim7 := { stood := { row := policyTextRow, standIns := [], harness := (true, "f014e3070ecdccb27ce571796c9e474f52fff6526c5ed5dc98680c1b9b88ce6d"), looks := true }, kinds := [], alts := [], laidByText := true, laidKinds := [.data, .data, .data, .data, .sentinel, .sentinel, .pinned], laidTests := true, laidLooks := .later }
def PolicyTextCardSaid : Prop := Claim7.holds Tryz.pinned (.plain (OpenSpec.ofChange policyTextSpec)) policyTextCard

/-- THE SECOND FORM's CARD OF 'cauterylaw30.PolicyKeep'. -/
def policyKeepUptoCard : Claim7 := { stood := { row := policyKeepUptoRow, standIns := [], harness := (true, "f014e3070ecdccb27ce571796c9e474f52fff6526c5ed5dc98680c1b9b88ce6d"), looks := true }, kinds := [], alts := [], laidByText := true, laidKinds := [.data, .data, .data, .data, .sentinel, .sentinel, .pinned], laidTests := true, laidLooks := .later }
def PolicyKeepUptoCardSaid : Prop := Claim7.holds Tryz.pinned (.plain (OpenSpec.upto policyKeepSpec)) policyKeepUptoCard

/-- THE SECOND FORM's CARD OF 'cauterylaw30.PolicyText'. -/
def policyTextUptoCard : Claim7 := { stood := { row := policyTextUptoRow, standIns := [], harness := (true, "f014e3070ecdccb27ce571796c9e474f52fff6526c5ed5dc98680c1b9b88ce6d"), looks := true }, kinds := [], alts := [], laidByText := true, laidKinds := [.data, .data, .data, .data, .sentinel, .sentinel, .pinned], laidTests := true, laidLooks := .later }
def PolicyTextUptoCardSaid : Prop := Claim7.holds Tryz.pinned (.plain (OpenSpec.upto policyTextSpec)) policyTextUptoCard
end Rows
end Go.Proofs.YtgbifohffmdgeaaGreatDoor
