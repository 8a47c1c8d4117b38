/-
  DERIVED. GIVEN WITH THE SEED: THE CARDS: each row of YtffhiphcmohjdaaGreatDoorRows.lean that lists a variable, with what it lists TIED to the program's text (the seventh form; the later family's looks); each row that meets fmt, with fmt's text TOLD by the authors' own Lean function (tested against real Go, not proved from fmt's source: count such statements apart). THE CARD IS WHAT COUNTS. Prove the row's statement (the work); the ties are given (YtffhiphcmohjdaaGreatDoorTie.lean); close each card by the builder's one call (the guide's Derived/Test/ToyasCard.lean, 'card_holds'). Laid BY PROGRAM, IN A SANDBOX (cutbox-door.mjs). By AI agents, Wed Nov 11 2026. No macro, syntax, notation, axiom, sorry.
-/
import Derived.Test.YtffhiphcmohjdaaGreatDoorRows
import GoSem.ClaimSeven
namespace Go.Proofs.YtffhiphcmohjdaaGreatDoor
namespace Rows

/-- THE TIED CARD OF 'cauterylaw14.PoolNil'. -/
def poolNilCard : Claim7 := { stood := { row := poolNilRow, standIns := [], harness := (true, "78559990a23a0922b794bc3f60a8c1786fe76c7b9a95e634002e15bd1f76da91"), looks := true }, kinds := [], alts := [], laidByText := true, laidKinds := [.data, .data, .handle, .sentinel, .pinned], laidTests := true, laidLooks := .later }
def PoolNilCardSaid : Prop := Claim7.holds Tryz.pinned (.plain (OpenSpec.ofChange poolNilSpec)) poolNilCard

/-- THE TIED CARD OF 'cauterylaw14.PoolCommit'. -/
def poolCommitCard : Claim7 := { stood := { row := poolCommitRow, standIns := [], harness := (true, "78559990a23a0922b794bc3f60a8c1786fe76c7b9a95e634002e15bd1f76da91"), looks := true }, kinds := [], alts := [], laidByText := true, laidKinds := [.data, .data, .handle, .sentinel, .pinned], laidTests := true, laidLooks := .later }
def PoolCommitCardSaid : Prop := Claim7.holds Tryz.pinned (.plain (OpenSpec.ofChange poolCommitSpec)) poolCommitCard

/-- THE TIED CARD OF 'cauterylaw14.PoolHistory'. -/
def poolHistoryCard : Claim7 := { stood := { row := poolHistoryRow, standIns := [], harness := (true, "78559990a23a0922b794bc3f60a8c1786fe76c7b9a95e634002e15bd1f76da91"), looks := true }, kinds := [], alts := [], laidByText := true, laidKinds := [.data, .data, .handle, .sentinel, .pinned], laidTests := true, laidLooks := .later }
def PoolHistoryCardSaid : Prop := Claim7.holds Tryz.pinned (.plain (OpenSpec.ofChange poolHistorySpec)) poolHistoryCard

/-- THE SECOND FORM's CARD OF 'cauterylaw14.PoolNil'. -/
def poolNilUptoCard : Claim7 := { stood := { row := poolNilUptoRow, standIns := [], harness := (true, "78559990a23a0922b794bc3f60a8c1786fe76c7b9a95e634002e15bd1f76da91"), looks := true }, kinds := [], alts := [], laidByText := true, laidKinds := [.data, .data, .handle, .sentinel, .pinned], laidTests := true, laidLooks := .later }
def PoolNilUptoCardSaid : Prop := Claim7.holds Tryz.pinned (.plain (OpenSpec.upto poolNilSpec)) poolNilUptoCard

/-- THE SECOND FORM's CARD OF 'cauterylaw14.PoolCommit'. -/
def poolCommitUptoCard : Claim7 := { stood := { row := poolCommitUptoRow, standIns := [], harness := (true, "78559990a23a0922b794bc3f60a8c1786fe76c7b9a95e634002e15bd1f76da91"), looks := true }, kinds := [], alts := [], laidByText := true, laidKinds := [.data, .data, .handle, .sentinel, .pinned], laidTests := true, laidLooks := .later }
def PoolCommitUptoCardSaid : Prop := Claim7.holds Tryz.pinned (.plain (OpenSpec.upto poolCommitSpec)) poolCommitUptoCard

/-- THE SECOND FORM's CARD OF 'cauterylaw14.PoolHistory'. -/
def poolHistoryUptoCard : Claim7 := { stood := { row := poolHistoryUptoRow, standIns := [], harness := (true, "78559990a23a0922b794bc3f60a8c1786fe76c7b9a95e634002e15bd1f76da91"), looks := true }, kinds := [], alts := [], laidByText := true, laidKinds := [.data, .data, .handle, .sentinel, .pinned], laidTests := true, laidLooks := .later }
def PoolHistoryUptoCardSaid : Prop := Claim7.holds Tryz.pinned (.plain (OpenSpec.upto poolHistorySpec)) poolHistoryUptoCard
end Rows
end Go.Proofs.YtffhiphcmohjdaaGreatDoor
