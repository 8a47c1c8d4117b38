/-
  DERIVED. GIVEN WITH THE SEED: THE CARDS: each row of YtgbifohffmdgeaaDoorRows.lean that lists a variable, with what it lists TIED to the program's text (the seventh form; the later family's looks); each row that meets fmt, with fmt's text TOLD by the authors' own Lean function (tested against real Go, not proved from fmt's source: count such statements apart). THE CARD IS WHAT COUNTS. Prove the row's statement (the work); the ties are given (YtgbifohffmdgeaaDoorTie.lean); close each card by the builder's one call (the guide's Derived/Test/ToyasCard.lean, 'card_holds'). Laid BY PROGRAM, IN A SANDBOX (cutbox-door.mjs). By AI agents, Wed Nov 11 2026. No macro, syntax, notation, axiom, sorry.
-/
import Derived.Test.YtgbifohffmdgeaaDoorRows
import GoSem.ClaimSeven
namespace Go.Proofs.YtgbifohffmdgeaaDoor
namespace Rows

/-- THE TIED CARD OF 'cauterylaw30.PolicyMore'. -/
def policyMoreCard : Claim7 := { stood := { row := policyMoreRow, standIns := [], harness := (true, "25a004ef08be5d5b4818540afeffb3eef397d29da5136718fa2c37dc5d2a340a"), looks := true }, kinds := [], alts := [], laidByText := true, laidKinds := [.data, .data, .data, .data, .sentinel, .sentinel, .pinned], laidTests := true, laidLooks := .later }
def PolicyMoreCardSaid : Prop := Claim7.holds Tryd.pinned (.plain (OpenSpec.ofChange policyMoreSpec)) policyMoreCard

/-- THE TIED CARD OF 'cauterylaw30.PolicyBack'. -/
def policyBackCard : Claim7 := { stood := { row := policyBackRow, standIns := [], harness := (true, "25a004ef08be5d5b4818540afeffb3eef397d29da5136718fa2c37dc5d2a340a"), looks := true }, kinds := [], alts := [], laidByText := true, laidKinds := [.data, .data, .data, .data, .sentinel, .sentinel, .pinned], laidTests := true, laidLooks := .later }
def PolicyBackCardSaid : Prop := Claim7.holds Tryd.pinned (.plain (OpenSpec.ofChange policyBackSpec)) policyBackCard

/-- THE SECOND FORM's CARD OF 'cauterylaw30.PolicyMore'. -/
def policyMoreUptoCard : Claim7 := { stood := { row := policyMoreUptoRow, standIns := [], harness := (true, "25a004ef08be5d5b4818540afeffb3eef397d29da5136718fa2c37dc5d2a340a"), looks := true }, kinds := [], alts := [], laidByText := true, laidKinds := [.data, .data, .data, .data, .sentinel, .sentinel, .pinned], laidTests := true, laidLooks := .later }
def PolicyMoreUptoCardSaid : Prop := Claim7.holds Tryd.pinned (.plain (OpenSpec.upto policyMoreSpec)) policyMoreUptoCard

/-- THE SECOND FORM's CARD OF 'cauterylaw30.PolicyBack'. -/
def policyBackUptoCard : Claim7 := { stood := { row := policyBackUptoRow, standIns := [], harness := (true, "25a004ef08be5d5b4818540afeffb3eef397d29da5136718fa2c37dc5d2a340a"), looks := true }, kinds := [], alts := [], laidByText := true, laidKinds := [.data, .data, .data, .data, .sentinel, .sentinel, .pinned], laidTests := true, laidLooks := .later }
def PolicyBackUptoCardSaid : Prop := Claim7.holds Tryd.pinned (.plain (OpenSpec.upto policyBackSpec)) policyBackUptoCard
end Rows
end Go.Proofs.YtgbifohffmdgeaaDoor
