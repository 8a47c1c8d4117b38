/-
  DERIVED. GIVEN WITH THE SEED: THE CARDS: each row of YtgkkggfhnlhbiaaDoorRows.lean that lists a variable, with what it lists TIED to the program's text (the seventh form; the later family's looks); each row that meets fmt, with fmt's text TOLD by the authors' own Lean function (tested against real Go, not proved from fmt's source: count such statements apart). THE CARD IS WHAT COUNTS. Prove the row's statement (the work); the ties are given (YtgkkggfhnlhbiaaDoorTie.lean); close each card by the builder's one call (the guide's Derived/Test/ToyasCard.lean, 'card_holds'). Laid BY PROGRAM, IN A SANDBOX (cutbox-door.mjs). By AI agents, Wed Nov 11 2026. No macro, syntax, notation, axiom, sorry.
-/
import Derived.Test.YtgkkggfhnlhbiaaDoorRows
import GoSem.ClaimSeven
namespace Go.Proofs.YtgkkggfhnlhbiaaDoor
namespace Rows

/-- THE TIED CARD OF 'cauterylaw03.FaultWrapped'. -/
def faultWrappedCard : Claim7 := { stood := { row := faultWrappedRow, standIns := [], harness := (true, "c9df08727b08f189243760cf49cbd58405c4809deb373564efac870da7a80686"), looks := true }, kinds := [], alts := [], laidByText := true, laidKinds := [.handle], laidTests := true, laidLooks := .later }
def FaultWrappedCardSaid : Prop := Claim7.holds Tryd.pinned (.plain (OpenSpec.ofChange faultWrappedSpec)) faultWrappedCard

/-- THE TIED CARD OF 'cauterylaw03.FaultTold'. -/
def faultToldCard : Claim7 := { stood := { row := faultToldRow, standIns := [], harness := (true, "c9df08727b08f189243760cf49cbd58405c4809deb373564efac870da7a80686"), looks := true }, kinds := [], alts := [], laidByText := true, laidKinds := [.handle], laidTests := true, laidLooks := .later }
def FaultToldCardSaid : Prop := Claim7.holds Tryd.pinned (.plain (OpenSpec.ofChange faultToldSpec)) faultToldCard

/-- THE TIED CARD OF 'cauterylaw03.FaultHas'. -/
def faultHasCard : Claim7 := { stood := { row := faultHasRow, standIns := [], harness := (true, "c9df08727b08f189243760cf49cbd58405c4809deb373564efac870da7a80686"), looks := true }, kinds := [], alts := [], laidByText := true, laidKinds := [.handle], laidTests := true, laidLooks := .later }
def FaultHasCardSaid : Prop := Claim7.holds Tryd.pinned (.plain (OpenSpec.ofChange faultHasSpec)) faultHasCard

/-- THE SECOND FORM's CARD OF 'cauterylaw03.FaultWrapped'. -/
def faultWrappedUptoCard : Claim7 := { stood := { row := faultWrappedUptoRow, standIns := [], harness := (true, "c9df08727b08f189243760cf49cbd58405c4809deb373564efac870da7a80686"), looks := true }, kinds := [], alts := [], laidByText := true, laidKinds := [.handle], laidTests := true, laidLooks := .later }
def FaultWrappedUptoCardSaid : Prop := Claim7.holds Tryd.pinned (.plain (OpenSpec.upto faultWrappedSpec)) faultWrappedUptoCard

/-- THE SECOND FORM's CARD OF 'cauterylaw03.FaultTold'. -/
def faultToldUptoCard : Claim7 := { stood := { row := faultToldUptoRow, standIns := [], harness := (true, "c9df08727b08f189243760cf49cbd58405c4809deb373564efac870da7a80686"), looks := true }, kinds := [], alts := [], laidByText := true, laidKinds := [.handle], laidTests := true, laidLooks := .later }
def FaultToldUptoCardSaid : Prop := Claim7.holds Tryd.pinned (.plain (OpenSpec.upto faultToldSpec)) faultToldUptoCard

/-- THE SECOND FORM's CARD OF 'cauterylaw03.FaultHas'. -/
def faultHasUptoCard : Claim7 := { stood := { row := faultHasUptoRow, standIns := [], harness := (true, "c9df08727b08f189243760cf49cbd58405c4809deb373564efac870da7a80686"), looks := true }, kinds := [], alts := [], laidByText := true, laidKinds := [.handle], laidTests := true, laidLooks := .later }
def FaultHasUptoCardSaid : Prop := Claim7.holds Tryd.pinned (.plain (OpenSpec.upto faultHasSpec)) faultHasUptoCard
end Rows
end Go.Proofs.YtgkkggfhnlhbiaaDoor
