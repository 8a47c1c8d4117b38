/-
  No cell of these rows narrows 'for every input' (looked for: loops, veiled, ifaces, maps, wideKeys, modest, calm, conditions, laid).
  DERIVED. THE GIVEN ROWS OF THIS SEAT. 3 by the template 'for every input the law returns true; each argument reads behind the call as it read before'; 0 by the template 'total and deterministic' (their statements: YtohopanblpgldaaTotals.lean).
  GIVEN WITH THE SEED: the statements are not yours to turn. If you find one false, say at which input.
  Laid BY PROGRAM, IN A SANDBOX (cutbox-rows.mjs): the forced cells as the released guide's own fill.sh prints them over the translation cbb8fbe8978511dc… (all of the seat's roots in one cut). By AI agents, Wed Nov 11 2026. No macro, syntax, notation, axiom, sorry.
-/
import Derived.Test.YtohopanblpgldaaChecked
import GoSem.Claim
import GoSem.ClaimJoined
import GoSem.ClaimMapViews
import Derived.JoinedTies
import Derived.KernelRfl
namespace Go.Proofs.Ytohopanblpgldaa
/- THE CELL 'sum', in the pinned program and in every row, IS THE sha256 OF THE DUMP (.gsa) THAT YtohopanblpgldaaProg.lean LOADS. Nothing in Lean hashes anything: it is a label: what it is worth is what the hold of that sum in a sandbox is worth. -/
noncomputable def Try.pinned : Pinned := { name := "ytohopanblpgldaa", sum := "cbb8fbe8978511dc5fde406bbe4c4888b3131f39a79af4864fd12aed3fce2a69", checked := Try.checked }
namespace Rows
def none {H : Type} : Left H := { results := [], args := [] }

/-- 'cauterylaw20.DigestRange': WHATEVER THE INPUT: true; the input reads as it did. -/
def digestRangeSpec : ChangeSpec := { name := "digestRange", fn := fun _ => fun
  | [d1, d2, d3] => { results := [.lit (.bool true)], args := [d1, d2, d3] }
  | _ => none }
def digestRangeRow : OpenClaim := { program := "ytohopanblpgldaa", sum := "cbb8fbe8978511dc5fde406bbe4c4888b3131f39a79af4864fd12aed3fce2a69", func := "cautery/cauterylaw20.DigestRange", spec := "digestRange", unfollowed := true, recurses := true, apart := false }
def DigestRangeSaid : Prop := digestRangeRow.holds Try.pinned (OpenSpec.ofChange digestRangeSpec)

/-- ITS FALSE NEIGHBOUR: 'it returns false'. Refute it at one input. -/
def digestRangeWrong : ChangeSpec := { name := "digestRange", fn := fun _ => fun
  | [d1, d2, d3] => { results := [.lit (.bool false)], args := [d1, d2, d3] }
  | _ => none }
def DigestRangeWrongFalsely : Prop := digestRangeRow.holds Try.pinned (OpenSpec.ofChange digestRangeWrong)

/-- 'cauterylaw20.DigestSearch': WHATEVER THE INPUT: true; the input reads as it did. -/
def digestSearchSpec : ChangeSpec := { name := "digestSearch", fn := fun _ => fun
  | [d1, d2, d3] => { results := [.lit (.bool true)], args := [d1, d2, d3] }
  | _ => none }
def digestSearchRow : OpenClaim := { program := "ytohopanblpgldaa", sum := "cbb8fbe8978511dc5fde406bbe4c4888b3131f39a79af4864fd12aed3fce2a69", func := "cautery/cauterylaw20.DigestSearch", spec := "digestSearch", unfollowed := true, recurses := true, apart := false }
def DigestSearchSaid : Prop := digestSearchRow.holds Try.pinned (OpenSpec.ofChange digestSearchSpec)

/-- ITS FALSE NEIGHBOUR: 'it returns false'. Refute it at one input. -/
def digestSearchWrong : ChangeSpec := { name := "digestSearch", fn := fun _ => fun
  | [d1, d2, d3] => { results := [.lit (.bool false)], args := [d1, d2, d3] }
  | _ => none }
def DigestSearchWrongFalsely : Prop := digestSearchRow.holds Try.pinned (OpenSpec.ofChange digestSearchWrong)

/-- 'cauterylaw20.DigestFound': WHATEVER THE INPUT: true; the input reads as it did. -/
def digestFoundSpec : ChangeSpec := { name := "digestFound", fn := fun _ => fun
  | [d1, d2, d3] => { results := [.lit (.bool true)], args := [d1, d2, d3] }
  | _ => none }
def digestFoundRow : OpenClaim := { program := "ytohopanblpgldaa", sum := "cbb8fbe8978511dc5fde406bbe4c4888b3131f39a79af4864fd12aed3fce2a69", func := "cautery/cauterylaw20.DigestFound", spec := "digestFound", unfollowed := true, recurses := true, apart := false }
def DigestFoundSaid : Prop := digestFoundRow.holds Try.pinned (OpenSpec.ofChange digestFoundSpec)

/-- ITS FALSE NEIGHBOUR: 'it returns false'. Refute it at one input. -/
def digestFoundWrong : ChangeSpec := { name := "digestFound", fn := fun _ => fun
  | [d1, d2, d3] => { results := [.lit (.bool false)], args := [d1, d2, d3] }
  | _ => none }
def DigestFoundWrongFalsely : Prop := digestFoundRow.holds Try.pinned (OpenSpec.ofChange digestFoundWrong)

/- THE SECOND FORM. 'bulk': how many values and letters a reading holds, each counted each time it is reached (what is shared counts as often as it is met; a slice's spare places count too). A statement '..UptoSaid' is the law's where the arguments, and the package variables that the reading takes, are together of bulk at most 1048576: NARROWER than '..Said'. Prove '..Said' where nothing that the law and all that it calls make is longer than what came in: it says more and counts as full. Else prove '..UptoSaid'. A law counts once. -/
mutual
def uptoBulk {H : Type} : DataW H → Nat
  | .lit (.string bytes) => bytes.length + 1
  | .lit _ => 1
  | .nil => 1
  | .ptr d => uptoBulk d + 1
  | .slice elems spare => uptoBulkAll elems + uptoBulkAll spare + 1
  | .agg parts => uptoBulkAll parts + 1
  | .iface _ d => uptoBulk d + 1
  | .map entries => uptoBulkEntries entries + 1
  | .held _ => 1
def uptoBulkAll {H : Type} : List (DataW H) → Nat
  | [] => 0
  | d :: r => uptoBulk d + uptoBulkAll r
def uptoBulkEntries {H : Type} : List (Lit × DataW H) → Nat
  | [] => 0
  | x :: r => uptoBulkEntry x + uptoBulkEntries r
def uptoBulkEntry {H : Type} : Lit × DataW H → Nat
  | (.string bytes, d) => bytes.length + uptoBulk d + 1
  | (_, d) => uptoBulk d + 1
 end
def uptoSmall : (H : Type) → List (DataW H) → Bool := fun _ ds => decide (uptoBulkAll ds ≤ 1048576)
def OpenSpec.upto (s : _root_.Go.ChangeSpec) : _root_.Go.OpenSpec := { _root_.Go.OpenSpec.ofChange s with cond := some uptoSmall }

/-- 'cauterylaw20.DigestRange', WHERE WHAT IT READS IS OF BULK AT MOST 1048576: true; the input reads as it did. -/
def digestRangeUptoRow : OpenClaim := { program := "ytohopanblpgldaa", sum := "cbb8fbe8978511dc5fde406bbe4c4888b3131f39a79af4864fd12aed3fce2a69", func := "cautery/cauterylaw20.DigestRange", spec := "digestRange", unfollowed := true, recurses := true, apart := false, narrowed := true }
def DigestRangeUptoSaid : Prop := digestRangeUptoRow.holds Try.pinned (OpenSpec.upto digestRangeSpec)

/-- 'cauterylaw20.DigestSearch', WHERE WHAT IT READS IS OF BULK AT MOST 1048576: true; the input reads as it did. -/
def digestSearchUptoRow : OpenClaim := { program := "ytohopanblpgldaa", sum := "cbb8fbe8978511dc5fde406bbe4c4888b3131f39a79af4864fd12aed3fce2a69", func := "cautery/cauterylaw20.DigestSearch", spec := "digestSearch", unfollowed := true, recurses := true, apart := false, narrowed := true }
def DigestSearchUptoSaid : Prop := digestSearchUptoRow.holds Try.pinned (OpenSpec.upto digestSearchSpec)

/-- 'cauterylaw20.DigestFound', WHERE WHAT IT READS IS OF BULK AT MOST 1048576: true; the input reads as it did. -/
def digestFoundUptoRow : OpenClaim := { program := "ytohopanblpgldaa", sum := "cbb8fbe8978511dc5fde406bbe4c4888b3131f39a79af4864fd12aed3fce2a69", func := "cautery/cauterylaw20.DigestFound", spec := "digestFound", unfollowed := true, recurses := true, apart := false, narrowed := true }
def DigestFoundUptoSaid : Prop := digestFoundUptoRow.holds Try.pinned (OpenSpec.upto digestFoundSpec)

end Rows
end Go.Proofs.Ytohopanblpgldaa
